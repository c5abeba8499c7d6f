/- Plain laws on what stands between: the whole text that is made by hand. -/
import Derived.Test.YtjnmgmepolpcdaaDoorPNote2
namespace Go.Proofs.YtjnmgmepolpcdaaDoor
namespace U
open Go

theorem run_drop (P : Nat → Bool) (l : List UInt8) (f : Nat) : run P l f = run P (l.drop f) 0 := by unfold run; rw [List.drop_zero]
theorem ends_drop {l : List UInt8} {f k : Nat} : endsM l (f + k) = endsM (l.drop f) k := by
  unfold endsM
  rw [List.length_drop, byt_drop]
  congr 1
  simp; omega
theorem mark_drop {l : List UInt8} {c f : Nat} (h : f ≤ l.length) : markM l c f = markM (l.drop f) c 0 := by
  unfold markM
  rw [ends_drop, List.length_drop, byt_drop, byt_drop, byt_drop]
  simp only [Nat.add_zero, Nat.zero_add]
  have e : (f + 3 ≤ l.length) = (3 ≤ l.length - f) := propext (by omega)
  simp only [e]
theorem kind_drop {l : List UInt8} {f : Nat} (h : f ≤ l.length) : kindF l f = kindF (l.drop f) 0 := by
  unfold kindF
  rw [mark_drop h, mark_drop h, run_drop, List.length_drop, byt_drop, Nat.zero_add]
  have e : l.length ≤ f + run whN (l.drop f) 0 ↔ l.length - f ≤ run whN (l.drop f) 0 := by omega
  simp only [e]
/-- The text behind the rows. -/
def nextL : List (List UInt8) := [[122], [45, 45, 45, 32, 122], [46, 46, 46], []]
def nHead (bes : Bool) (rs : List NRow) : List UInt8 := if bes then (match rs with | [] => [119] | r :: _ => [119, 32, 35] ++ r.2.2) else [119]
def nRest (bes : Bool) (rs : List NRow) : List NRow := if bes then rs.drop 1 else rs
def nTx (bes : Bool) (rs : List NRow) : List UInt8 := nHead bes rs ++ nrows (nRest bes rs)
def nWant (bes : Bool) (rs : List NRow) : Notes := (if bes then (match rs with | [] => [] | r :: _ => [(r.2.2, 0)]) else []) ++ nwant (nRest bes rs)
theorem nTx_snoc (bes : Bool) (rs : List NRow) (r : NRow) (h : ¬ (rs = [] ∧ bes = true)) : nTx bes (rs ++ [r]) = nTx bes rs ++ nrow r ∧ nWant bes (rs ++ [r]) = nWant bes rs ++ [(r.2.2, r.1)] := by
  cases bes with
  | false => simp [nTx, nWant, nHead, nRest, nrows_snoc, nwant_snoc]
  | true =>
    cases rs with
    | nil => exact absurd ⟨rfl, rfl⟩ h
    | cons q t => simp [nTx, nWant, nHead, nRest, nrows_snoc, nwant_snoc]
theorem nTx_one (r : NRow) : nTx true [r] = [119, 32, 35] ++ r.2.2 ∧ nWant true [r] = [(r.2.2, 0)] := ⟨by simp [nTx, nHead, nRest, nrows], by simp [nWant, nRest, nwant]⟩
theorem nTx_nil (bes : Bool) : nTx bes [] = [119] ∧ nWant bes [] = [] := by cases bes <;> exact ⟨rfl, rfl⟩
/-- Ahead of the rows. -/
theorem pass_head {row : Nat → Option Nat} {l X : List UInt8} {bes : Bool} {rs : List NRow} (hw : ∀ r ∈ rs, WordOK r.2.2) (hl : l = nHead bes rs ++ 10 :: X) :
    ∃ acc nr, passR l 1 row true 1 [] false = passR l 1 row false (nHead bes rs).length acc nr ∧ (acc = [] → nr = false) ∧ nr = (bes && !rs.isEmpty) ∧ acc ++ nwant (nRest bes rs) = nWant bes rs ∧ 1 ≤ (nHead bes rs).length ∧ kindM l (nHead bes rs).length ≠ 1 := by
  have h0 : byt l 0 = 119 := by
    rw [hl]
    unfold nHead
    split
    · split <;> rfl
    · rfl
  have hr1 : rowFrom l 1 = 0 := by rw [rowFrom, if_neg (by rw [h0]; decide)]; rfl
  have hk0 : kindF l 0 ≠ 1 := by
    have h1 : run whN l 0 = 0 := run_stop (by rw [h0]; rfl)
    have hlen : 0 < l.length := by
      rcases Nat.eq_zero_or_pos l.length with h | h
      · rw [byt_ge l 0 (by omega)] at h0; omega
      · exact h
    unfold kindF
    rw [mark_not (by omega), mark_not (by omega), if_neg (by decide), if_neg (by decide), h1, Nat.add_zero, if_neg (by omega), if_neg (by omega)]
    decide
  have hbeg : ∀ acc nr, passR l 1 row true 1 acc nr = passR l 1 row false 1 acc nr := fun acc nr => by rw [passR_beg, if_neg (by omega)]
  rw [hbeg]
  by_cases hb : bes = true ∧ rs ≠ []
  · obtain ⟨rfl, hne⟩ := hb
    obtain ⟨r, t, rfl⟩ : ∃ r t, rs = r :: t := by cases rs with
      | nil => exact absurd rfl hne
      | cons r t => exact ⟨r, t, rfl⟩
    have eh : nHead true (r :: t) = [119, 32, 35] ++ r.2.2 := rfl
    rw [eh] at hl ⊢
    obtain ⟨g, n, w⟩ := r
    obtain ⟨hw1, hw2⟩ := hw (g, n, w) (by simp)
    simp only at hw1 hw2 hl ⊢
    have hlen : l.length = 3 + w.length + (1 + X.length) := by rw [hl]; simp; omega
    have h1 : byt l 1 = 32 := by rw [hl]; rfl
    have h2 : byt l 2 = 35 := by rw [hl]; rfl
    have hd : l.drop 3 = w ++ 10 :: X := by rw [hl]; rfl
    have hin : ∀ j, 3 ≤ j → j < 3 + w.length → byt l j ≠ 10 := fun j ha hb => by
      obtain ⟨d, rfl⟩ : ∃ d, j = 3 + d := ⟨j - 3, by omega⟩
      rw [byt_shape hd (by omega)]
      intro h10
      have hg := byt_get w d (by omega)
      exact hw1 (w[d]'(by omega)) (List.getElem_mem _) (UInt8.toNat.inj (by rw [hg, h10]; rfl))
    have hT : byt l (3 + w.length) = 10 := by
      have := byt_drop l 3 w.length
      rw [hd, byt_append_right _ _ _ (Nat.le_refl _), Nat.sub_self] at this
      exact this.symm
    have hnf : ∀ j, 0 ≤ j → j < 3 + w.length → byt l j ≠ 10 := fun j _ hj => by
      rcases (show j = 0 ∨ j = 1 ∨ j = 2 ∨ 3 ≤ j by omega) with rfl | rfl | rfl | h
      · rw [h0]; decide
      · rw [h1]; decide
      · rw [h2]; decide
      · exact hin j h hj
    have hto : rowTo l 2 = 3 + w.length := rowTo_is (by omega) (by omega) (.inr hT) (fun j ha hb => hnf j (Nat.zero_le _) hb)
    have hrf : ∀ q, q ≤ 3 + w.length → rowFrom l q = 0 := fun q hq => rowFrom_is (Nat.zero_le _) (.inl rfl) (fun j _ hj => hnf j (Nat.zero_le _) (by omega))
    refine ⟨[(w, 0)], true, ?_, by simp, rfl, by simp [nWant, nRest], by simp, ?_⟩
    · have e3 : ([119, 32, 35] ++ w : List UInt8).length = 3 + w.length := by simp; omega
      rw [e3, passR_in, if_neg (by omega), h1, if_pos (by decide), passR_in, if_neg (by omega), h2, if_neg (by decide), if_neg (by decide), if_pos (by unfold isNote endsM; rw [h2]; simp [h1, whN]), hto]
      have htx : noteTx l 2 = w := by
        unfold noteTx
        rw [hto, hd, show 3 + w.length - (2 + 1) = w.length by omega, List.take_left]
        exact hw2
      have hab : aboveM l 2 = 0 := by
        unfold aboveM firstM
        rw [hrf 2 (by omega), run_stop (by rw [h0]; rfl), if_pos (by omega)]
      rw [htx, hab, hrf 2 (by omega)]
      rfl
    · have e3 : ([119, 32, 35] ++ w : List UInt8).length = 3 + w.length := by simp; omega
      rw [e3]
      unfold kindM
      rw [hrf _ (Nat.le_refl _)]
      exact hk0
  · have eh : nHead bes rs = [119] := by
      unfold nHead
      split
      · rename_i hbt
        cases rs with
        | nil => rfl
        | cons r t => exact absurd ⟨hbt, by simp⟩ hb
      · rfl
    rw [eh]
    refine ⟨[], false, rfl, fun _ => rfl, ?_, ?_, by simp, ?_⟩
    · cases bes with
      | false => rfl
      | true =>
        cases rs with
        | nil => rfl
        | cons r t => exact absurd ⟨rfl, by simp⟩ hb
    · cases bes with
      | false => rfl
      | true =>
        cases rs with
        | nil => rfl
        | cons r t => exact absurd ⟨rfl, by simp⟩ hb
    · show kindM l 1 ≠ 1
      unfold kindM
      rw [hr1]
      exact hk0
/-- Ahead of what comes next. -/
theorem pass_made {row : Nat → Option Nat} (l X : List UInt8) (bes : Bool) (rs : List NRow) (hw : ∀ r ∈ rs, WordOK r.2.2) (hl : l = nTx bes rs ++ 10 :: X) (hrow : ∀ q, kindM l q = 1 ∨ kindM l q = 2 → row q = none) :
    passR l 1 row true 1 [] false = match row ((nTx bes rs).length + 1) with
      | some q => (nWant bes rs, bes && !rs.isEmpty, q, false)
      | none => passR l 1 row true ((nTx bes rs).length + 1) (nWant bes rs) (bes && !rs.isEmpty) := by
  have hX : ∃ Y, nrows (nRest bes rs) ++ 10 :: X = 10 :: Y := by
    cases nRest bes rs with
    | nil => exact ⟨_, rfl⟩
    | cons r t => exact ⟨_, by simp [nrows, nrow]; rfl⟩
  obtain ⟨Y, hY⟩ := hX
  have hl2 : l = nHead bes rs ++ 10 :: Y := by rw [hl, nTx, List.append_assoc, hY]
  obtain ⟨acc, nr, e1, hnr, hb, hwant, h1, hk⟩ := pass_head (row := row) hw hl2
  have hdrop : l.drop (nHead bes rs).length = nrows (nRest bes rs) ++ 10 :: X := by rw [hl, nTx, List.append_assoc, List.drop_left]
  have hw2 : ∀ r ∈ nRest bes rs, WordOK r.2.2 := fun r hr => hw r (by
    unfold nRest at hr
    split at hr
    · exact List.mem_of_mem_drop hr
    · exact hr)
  obtain ⟨e2, _⟩ := pass_rows hrow (nRest bes rs) hw2 hdrop h1 hk acc nr hnr
  have e3 : (nHead bes rs).length + (nrows (nRest bes rs)).length = (nTx bes rs).length := by rw [nTx, List.length_append]
  have h10 : byt l (nTx bes rs).length = 10 := by rw [hl, byt_append_right _ _ _ (Nat.le_refl _), Nat.sub_self]; rfl
  have hlen : (nTx bes rs).length < l.length := by rw [hl]; simp
  rw [e1, e2, e3, hwant, hb, passR_in, if_neg (by omega), h10, if_neg (by decide), if_pos rfl]
  cases row ((nTx bes rs).length + 1) <;> rfl
theorem made_kind (l : List UInt8) (bes : Bool) (rs : List NRow) (k : Nat) (hl : l = nTx bes rs ++ 10 :: nextL.getD k []) :
    kindM l ((nTx bes rs).length + 1) = kindF (nextL.getD k []) 0 ∧ rowFrom l ((nTx bes rs).length + 1) = (nTx bes rs).length + 1 ∧ l.drop ((nTx bes rs).length + 1) = nextL.getD k [] := by
  have h10 : byt l (nTx bes rs).length = 10 := by rw [hl, byt_append_right _ _ _ (Nat.le_refl _), Nat.sub_self]; rfl
  have hr := rowFrom_feed h10
  have hd : l.drop ((nTx bes rs).length + 1) = nextL.getD k [] := by rw [hl, ← List.drop_drop, List.drop_left]; rfl
  refine ⟨?_, hr, hd⟩
  unfold kindM
  rw [hr, kind_drop (by rw [hl]; simp), hd]
theorem made_stop {row : Nat → Option Nat} (l : List UInt8) (bes : Bool) (rs : List NRow) (k : Nat) (hk : k < 4) (hl : l = nTx bes rs ++ 10 :: nextL.getD k []) (acc : Notes) (nr : Bool) :
    passR l 1 row true ((nTx bes rs).length + 1) acc nr = (acc, nr, (nTx bes rs).length + 1, true) := by
  obtain ⟨hkd, hr, hd⟩ := made_kind l bes rs k hl
  generalize (nTx bes rs).length + 1 = q at *
  rw [passR_beg]
  by_cases hm : k = 1 ∨ k = 2
  · rw [if_pos ⟨hr, by rw [hkd]; rcases hm with rfl | rfl <;> decide⟩]
  · rw [if_neg (fun h => by
      have := h.2
      rw [hkd] at this
      rcases (show k = 0 ∨ k = 3 by omega) with rfl | rfl <;> revert this <;> decide)]
    rcases (show k = 0 ∨ k = 3 by omega) with rfl | rfl
    · have hb : byt l q = 122 := by have := byt_drop l q 0; rw [hd, Nat.add_zero] at this; exact this.symm
      have hlt : q < l.length := by
        rcases Nat.lt_or_ge q l.length with h | h
        · exact h
        · rw [byt_ge l q h] at hb; omega
      rw [passR_in, if_neg (by omega), hb, if_neg (by decide), if_neg (by decide), if_neg (by simp [isNote, hb])]
    · have hge : l.length ≤ q := List.drop_eq_nil_iff.1 hd
      rw [passR_in, if_pos hge]
theorem made_skip (l : List UInt8) (bes : Bool) (rs : List NRow) (k : Nat) (hk : k < 4) (hw : ∀ r ∈ rs, WordOK r.2.2) (hl : l = nTx bes rs ++ 10 :: nextL.getD k []) :
    skipM l 1 = (nWant bes rs, bes && !rs.isEmpty, (((nTx bes rs).length + 1 : Nat) : Int), 0) := by
  have e : skipM l 1 = skipOf l 1 (passR l 1 (fun _ => none) true 1 [] false) := rfl
  have hp : passR l 1 (fun _ => none) true 1 [] false = (nWant bes rs, bes && !rs.isEmpty, (nTx bes rs).length + 1, true) := by
    rw [pass_made l _ bes rs hw hl (fun _ _ => rfl)]
    exact made_stop l bes rs k hk hl _ _
  have hr := (made_kind l bes rs k hl).2.1
  rw [e, hp]
  unfold skipOf
  simp only [hr, Nat.sub_self]
  rw [if_neg (fun h => absurd h.1 (by show ¬ (0 : Int) ≤ -1; decide))]
theorem made_within (l : List UInt8) (bes : Bool) (rs : List NRow) (k : Nat) (hk : k < 4) (hw : ∀ r ∈ rs, WordOK r.2.2) (hl : l = nTx bes rs ++ 10 :: nextL.getD k []) :
    withinM l 1 (-1) = if k = 1 ∨ k = 2 then ([], false, (((nTx bes rs).length + 1 : Nat) : Int), 5) else (nWant bes rs, bes && !rs.isEmpty, (((nTx bes rs).length + 1 : Nat) : Int), 0) := by
  have e : withinM l 1 (-1) = withinOf (passR l 1 (rowW l (-1)) true 1 [] false) := rfl
  have hrow : ∀ q, kindM l q = 1 ∨ kindM l q = 2 → rowW l (-1) q = none := fun q hq => by
    unfold rowW
    rw [if_neg (by omega), if_neg (by omega)]
  have hp := pass_made l _ bes rs hw hl hrow
  have hkd := (made_kind l bes rs k hl).1
  rw [e, hp]
  by_cases hm : k = 1 ∨ k = 2
  · have h34 : kindM l ((nTx bes rs).length + 1) = 3 ∨ kindM l ((nTx bes rs).length + 1) = 4 := by rw [hkd]; rcases hm with rfl | rfl <;> decide
    rw [show rowW l (-1) ((nTx bes rs).length + 1) = some ((nTx bes rs).length + 1) by unfold rowW; rw [if_neg (by omega), if_pos h34], if_pos hm]
    rfl
  · have hno : rowW l (-1) ((nTx bes rs).length + 1) = none := by
      unfold rowW
      rcases (show k = 0 ∨ k = 3 by omega) with rfl | rfl
      · have : kindM l ((nTx bes rs).length + 1) = 5 := by rw [hkd]; decide
        rw [if_pos this, if_pos (by omega)]
      · have : kindM l ((nTx bes rs).length + 1) = 1 := by rw [hkd]; decide
        rw [if_neg (by omega), if_neg (by omega)]
    rw [hno, if_neg hm]
    show withinOf (passR l 1 (rowW l (-1)) true ((nTx bes rs).length + 1) (nWant bes rs) (bes && !rs.isEmpty)) = _
    rw [made_stop l bes rs k hk hl]
    rfl
end U
end Go.Proofs.YtjnmgmepolpcdaaDoor
