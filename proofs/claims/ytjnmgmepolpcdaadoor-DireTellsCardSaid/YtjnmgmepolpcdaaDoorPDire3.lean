/- A directive told is read again: what Read answers. -/
import Derived.Test.YtjnmgmepolpcdaaDoorWRead
import Derived.Test.YtjnmgmepolpcdaaDoorPDire2
namespace Go.Proofs.YtjnmgmepolpcdaaDoor
namespace U
open Go

theorem joinW_B : ∀ ws : List (List UInt8), joinW ws = joinB ws := by
  intro ws
  induction ws with
  | nil => rfl
  | cons a ws ih =>
    cases ws with
    | nil => simp [joinW, Lib.join, joinB, List.intercalate, List.intersperse]
    | cons b t =>
      have h : joinW (a :: b :: t) = a ++ 32 :: joinW (b :: t) := by simp [joinW, Lib.join, List.intercalate, List.intersperse]
      rw [h, ih]
      rfl
theorem commentF_spec (l : List UInt8) : ∀ (f i : Nat), (commentF l f i = -1 ∧ ∀ j, i ≤ j → j < i + f → ¬ noteAt l j) ∨ ∃ k : Nat, commentF l f i = k ∧ noteAt l k ∧ ∀ j, i ≤ j → j < k → ¬ noteAt l j := by
  intro f
  induction f with
  | zero => intro i; exact .inl ⟨rfl, fun j h1 h2 => by omega⟩
  | succ f ih =>
    intro i
    rw [commentF]
    by_cases h : noteAt l i
    · rw [if_pos h]
      exact .inr ⟨i, rfl, h, fun j h1 h2 => by omega⟩
    · rw [if_neg h]
      rcases ih (i + 1) with ⟨h1, h2⟩ | ⟨k, h1, h2, h3⟩
      · refine .inl ⟨h1, fun j hj hj2 => ?_⟩
        by_cases hji : j = i
        · rw [hji]; exact h
        · exact h2 j (by omega) (by omega)
      · refine .inr ⟨k, h1, h2, fun j hj hj2 => ?_⟩
        by_cases hji : j = i
        · rw [hji]; exact h
        · exact h3 j (by omega) hj2
/-- What Read takes a directive's words of. -/
def bodyOf (l : List UInt8) : List UInt8 := if 0 ≤ commentM l then l.take (commentM l).toNat else l
theorem body_noNote (l : List UInt8) : noNote false (bodyOf l) := by
  rw [← noNote_iff]
  intro j
  unfold bodyOf
  rcases commentF_spec l l.length 0 with ⟨h1, h2⟩ | ⟨k, h1, h2, h3⟩
  · have hc : commentM l = -1 := h1
    rw [hc, if_neg (by decide)]
    intro hn
    exact h2 j (Nat.zero_le _) (by have := hn.2.1; omega) hn
  · have hc : commentM l = k := h1
    rw [hc, if_pos (by omega), show ((k : Int)).toNat = k by omega]
    rintro ⟨n1, n2, n3, n4⟩
    rw [List.length_take] at n2
    rw [byt_take _ _ _ (by omega)] at n3 n4
    exact h3 j (Nat.zero_le _) (by omega) ⟨n1, by omega, n3, n4⟩
theorem readM_rest {l : List UInt8} (h : (readM l).2.2.2 = 0) : l ≠ [] ∧ byt l 0 = 37 ∧ rightM (wordsM (bodyOf l)) = true ∧ (readM l).1 = joinW (wordsM (bodyOf l)) := by
  unfold readM at h ⊢
  by_cases h0 : l = [] ∨ byt l 0 ≠ 37
  · rw [if_pos h0] at h; cases h
  · rw [if_neg h0] at h ⊢
    have h1 : l ≠ [] := fun hh => h0 (.inl hh)
    have h2 : byt l 0 = 37 := Classical.byContradiction fun hh => h0 (.inr hh)
    refine ⟨h1, h2, ?_⟩
    unfold bodyOf
    by_cases hc : 0 ≤ commentM l
    · rw [if_pos hc] at h ⊢
      rw [if_pos hc]
      unfold restM at h ⊢
      cases hr : rightM (wordsM (l.take (commentM l).toNat)) with
      | true => exact ⟨rfl, rfl⟩
      | false => rw [hr] at h; cases h
    · rw [if_neg hc] at h ⊢
      rw [if_neg hc]
      unfold restM at h ⊢
      cases hr : rightM (wordsM l) with
      | true => exact ⟨rfl, rfl⟩
      | false => rw [hr] at h; cases h
theorem rightM_first {ws : List (List UInt8)} (h : rightM ws = true) : ∃ a t, ws = a :: t ∧ byt a 0 = 37 ∧ 2 ≤ a.length := by
  cases ws with
  | nil => rw [rightM, if_pos (.inl rfl)] at h; cases h
  | cons a t =>
    refine ⟨a, t, rfl, ?_⟩
    rw [rightM] at h
    split at h
    · cases h
    · rename_i hh
      simp only [List.getD_cons_zero, not_or, ne_eq, Decidable.not_not] at hh
      exact ⟨hh.2.2, by omega⟩
/-- What Read answers of a directive that it told: with more White, and with a comment behind. -/
theorem read_again {l : List UInt8} (h : (readM l).2.2.2 = 0) {e : List UInt8} (he : e = [32] ∨ e = [9, 32]) :
    readM (spread e (readM l).1 ++ e) = ((readM l).1, [], false, 0) ∧ readM (spread e (readM l).1 ++ e ++ 35 :: 113 :: e) = ((readM l).1, [113], true, 0) := by
  have hw : ∀ x ∈ e, wh x = true := by rcases he with rfl | rfl <;> decide
  obtain ⟨h1, h2, h3, h4⟩ := readM_rest h
  have hbn := body_noNote l
  have hbl := words_black (bodyOf l) [] (by simp)
  have hheads : ∀ u ∈ wordsM (bodyOf l), ∃ b t, u = b :: t ∧ b ≠ 35 := by
    intro u hu
    cases hb : bodyOf l with
    | nil => rw [hb] at hu; simp [wordsM, wordsF] at hu
    | cons b t =>
      have hb37 : b = 37 := by
        have : byt (bodyOf l) 0 = 37 := by
          unfold bodyOf at hb ⊢
          split
          · rename_i hc
            rw [if_pos hc] at hb
            rcases Nat.eq_zero_or_pos (commentM l).toNat with hz | hz
            · rw [hz] at hb; simp at hb
            · rw [byt_take _ _ _ hz]; exact h2
          · exact h2
        rw [hb] at this
        exact UInt8.toNat.inj this
      subst hb37
      rw [hb] at hu hbn
      unfold wordsM at hu
      rw [wordsF, if_neg (by decide)] at hu
      rcases heads_note t [37] (wh 37) hbn.2 (by simp) u hu with ⟨_, v, rfl⟩ | h5
      · exact ⟨37, v, rfl, by decide⟩
      · exact h5
  rw [h4, joinW_B]
  have hws : ∀ u ∈ wordsM (bodyOf l), u ≠ [] ∧ ∀ x ∈ u, wh x = false := hbl
  generalize wordsM (bodyOf l) = ws at *
  obtain ⟨a, t, hat, ha37, ha2⟩ := rightM_first h3
  have hd : wordsM (joinB ws) = ws := words_join ws hws
  have hdn : noNote false (joinB ws) := noNote_join ws false hws (fun a' t' he' => ⟨.inl rfl, fun u hu => hheads u (by rw [he']; simp [hu])⟩)
  have hfirst : ∃ r, joinB ws = 37 :: r := by
    subst hat
    cases a with
    | nil => simp at ha2
    | cons b u =>
      have hb : b = 37 := UInt8.toNat.inj ha37
      subst hb
      cases t with
      | nil => exact ⟨u, rfl⟩
      | cons c t => exact ⟨u ++ 32 :: joinB (c :: t), rfl⟩
  have hjw : joinW ws = joinB ws := joinW_B ws
  generalize hD : joinB ws = d at *
  obtain ⟨r, hr⟩ := hfirst
  have hpn : noNote false (spread e d ++ e) := noNote_append (noNote_spread hw hdn) (noNote_white hw _)
  have hpw : wordsM (spread e d ++ e) = ws := by
    unfold wordsM at hd ⊢
    rw [words_end e hw, ← List.append_nil (spread e d), words_spread e hw, List.append_nil]
    exact hd
  obtain ⟨r', hr'⟩ : ∃ r', spread e d ++ e = 37 :: r' := by
    rw [hr, spread_cons, if_neg (by decide)]
    exact ⟨spread e r ++ e, rfl⟩
  have hel : ∃ q, spread e d ++ e = q ++ [32] := by
    rcases he with rfl | rfl
    · exact ⟨_, rfl⟩
    · exact ⟨spread [9, 32] d ++ [9], by simp⟩
  have hel2 : Lib.trimRightS (113 :: e) white2 = [113] := by rcases he with rfl | rfl <;> decide
  have hno := (noNote_iff (spread e d ++ e)).2 hpn
  generalize spread e d ++ e = p at *
  have hp0 : ¬ (p = [] ∨ byt p 0 ≠ 37) := by rw [hr']; rintro (hh | hh); cases hh; exact hh rfl
  constructor
  · have hc : commentM p = -1 := comment_no (fun j _ => hno j)
    rw [readM, if_neg hp0, hc, if_neg (by decide), restM, hpw, h3, hjw]
    rfl
  · obtain ⟨q, hq⟩ := hel
    have hpl : 1 ≤ p.length := by rw [hq]; simp
    have hn : noteAt (p ++ 35 :: 113 :: e) p.length := by
      refine ⟨hpl, by simp, ?_, ?_⟩
      · rw [byt_append_right _ _ _ (Nat.le_refl _), Nat.sub_self]; rfl
      · rw [byt_append_left _ _ _ (by omega), hq, List.length_append, List.length_singleton, Nat.add_sub_cancel, byt_append_right _ _ _ (Nat.le_refl _), Nat.sub_self]
        decide
    have hc : commentM (p ++ 35 :: 113 :: e) = p.length := comment_at (fun j hj hnj => by
      obtain ⟨n1, n2, n3, n4⟩ := hnj
      rw [byt_append_left _ _ _ (by omega)] at n3 n4
      exact hno j ⟨n1, hj, n3, n4⟩) hn
    have hp1 : ¬ (p ++ 35 :: 113 :: e = [] ∨ byt (p ++ 35 :: 113 :: e) 0 ≠ 37) := by rw [hr']; rintro (hh | hh); cases hh; exact hh rfl
    have ht : (p ++ 35 :: 113 :: e).take p.length = p := by simp
    have hdr : (p ++ 35 :: 113 :: e).drop (p.length + 1) = 113 :: e := by simp [List.drop_append]
    rw [readM, if_neg hp1, hc, if_pos (by omega), show ((p.length : Int)).toNat = p.length by omega, ht, hdr, hel2, restM, hpw, h3, hjw]
    rfl
end U
end Go.Proofs.YtjnmgmepolpcdaaDoor
