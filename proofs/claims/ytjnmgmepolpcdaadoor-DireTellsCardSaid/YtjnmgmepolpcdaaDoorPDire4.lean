/- A word that may stand for a handle, a word that is one: the program's answer is the document's. -/
import Derived.Test.YtjnmgmepolpcdaaDoorWRefDire2
import Derived.Test.YtjnmgmepolpcdaaDoorWDire2
namespace Go.Proofs.YtjnmgmepolpcdaaDoor
namespace U
open Go

theorem pct_suffix (b : UInt8) (t : List UInt8) : pctN (b :: t ++ [62]) = pctN (b :: t) := by
  match t with
  | [] => rfl
  | [c] =>
    unfold pctN
    have h1 : hexN (byt ([b, c] ++ [62]) 2) = false := by
      show hexN 62 = false
      decide
    rw [show (b :: [c] ++ [62] : List UInt8) = [b, c] ++ [62] from rfl, h1]
    simp
  | c :: d :: u =>
    unfold pctN
    have h1 : byt (b :: c :: d :: u ++ [62]) 1 = byt (b :: c :: d :: u) 1 := rfl
    have h2 : byt (b :: c :: d :: u ++ [62]) 2 = byt (b :: c :: d :: u) 2 := rfl
    rw [h1, h2]
    simp
theorem uris_suffix : ∀ l : List UInt8, decide (urisM false (l ++ [62]) = l.length) = (pctsM l && allUri l) := by
  intro l
  induction l with
  | nil => rfl
  | cons b t ih =>
    have hs : stepB false (b :: t ++ [62]) = (uriN b.toNat && (b.toNat != 37 || pctN (b :: t))) := by
      unfold stepB
      rw [pct_suffix]
      show (uriN b.toNat && (b.toNat != 37 || pctN (b :: t)) && !(false && _)) = _
      simp
    have hu : urisM false (b :: t ++ [62]) = if stepB false (b :: t ++ [62]) = true then 1 + urisM false (t ++ [62]) else 0 := rfl
    have ha : allUri (b :: t) = (uriN b.toNat && allUri t) := rfl
    rw [hu, hs, pctsM, ha]
    cases h1 : uriN b.toNat with
    | false => simp
    | true =>
      cases h2 : (b.toNat != 37 || pctN (b :: t)) with
      | false => simp
      | true =>
        simp only [Bool.and_self, if_true, Bool.true_and]
        rw [← ih, Bool.eq_iff_iff, decide_eq_true_eq, decide_eq_true_eq, List.length_cons]
        omega
theorem ahead_eq {l : List UInt8} (h : l ≠ []) : aheadM l = urisR l := by
  have he : l.isEmpty = false := by cases l with | nil => exact absurd rfl h | cons b t => rfl
  have hl : 0 < l.length := List.length_pos_iff.2 h
  unfold aheadM urisR
  rw [he, ← uris_suffix]
  simp only [Bool.not_false, Bool.true_and]
  congr 1
  have hh : handleM (33 :: 60 :: (l ++ [62])) = 0 := by
    unfold handleM
    have hw : wordsLen ((33 :: 60 :: (l ++ [62]) : List UInt8).drop 1) = 0 := rfl
    rw [hw, if_neg]
    rintro ⟨_, h2⟩
    exact absurd h2 (by show ¬ (60 = 33); decide)
  have hr : sizeR (33 :: 60 :: (l ++ [62])) = 1 := by
    unfold sizeR
    rw [hh, if_neg (by omega)]
    have hu : urisM true ((33 :: 60 :: (l ++ [62]) : List UInt8).drop 1) = 0 := by
      show (if stepB true (60 :: (l ++ [62])) = true then _ else 0) = 0
      rw [if_neg]
      have : uriN (byt (60 :: (l ++ [62])) 0) = false := by show uriN 60 = false; decide
      unfold stepB
      rw [this]
      simp
    rw [hu]
  have hs : sizeM (33 :: 60 :: (l ++ [62])) = if 0 < urisM false (l ++ [62]) ∧ [62].isPrefixOf ((l ++ [62]).drop (urisM false (l ++ [62]))) = true then urisM false (l ++ [62]) + 3 else 1 := by
    rw [sizeM, if_neg (by rintro (h1 | h1); cases h1; exact h1 rfl), hr]
    have hp : pre2 33 60 (33 :: 60 :: (l ++ [62])) = true := by simp [pre2, List.isPrefixOf]
    rw [hp]
    simp
  rw [hs, Bool.eq_iff_iff, beq_iff_eq, decide_eq_true_eq]
  constructor
  · intro hq
    split at hq <;> omega
  · intro hq
    rw [hq, if_pos ⟨hl, by simp [List.isPrefixOf]⟩]
theorem uris_stop : ∀ (q r : List UInt8), urisM true (q ++ 33 :: r) ≤ q.length := by
  intro q r
  induction q with
  | nil =>
    show (if stepB true (33 :: r) = true then _ else 0) ≤ 0
    rw [if_neg]
    · exact Nat.le_refl _
    · unfold stepB
      have : byt (33 :: r) 0 = 33 := rfl
      rw [this]
      simp
  | cons b q ih =>
    show (if stepB true (b :: (q ++ 33 :: r)) = true then _ else 0) ≤ _
    split
    · simp; omega
    · exact Nat.zero_le _
theorem words_stop : ∀ (q r r' : List UInt8), wordsLen (q ++ 33 :: r) = wordsLen (q ++ 33 :: r') ∧ wordsLen (q ++ 33 :: r) ≤ q.length := by
  intro q r r'
  induction q with
  | nil =>
    have : ∀ r, wordsLen (33 :: r) = 0 := fun r => rfl
    exact ⟨by rw [List.nil_append, List.nil_append, this, this], by rw [List.nil_append, this]; exact Nat.zero_le _⟩
  | cons b q ih =>
    constructor
    · show (if wordN b.toNat = true then 1 + wordsLen (q ++ 33 :: r) else 0) = (if wordN b.toNat = true then 1 + wordsLen (q ++ 33 :: r') else 0)
      rw [ih.1]
    · show (if wordN b.toNat = true then 1 + wordsLen (q ++ 33 :: r) else 0) ≤ _
      split
      · simp; omega
      · exact Nat.zero_le _
/-- A word that begins and ends with a !. -/
theorem handled_core (q : List UInt8) : (sizeM (33 :: (q ++ 33 :: [97])) == q.length + 2 + 1) = (handleR (33 :: (q ++ [33])) == q.length + 2) := by
  have hw := words_stop q [97] []
  have hu := uris_stop q [97]
  generalize hk : wordsLen (q ++ 33 :: [97]) = k at *
  have hkR : wordsLen ((33 :: (q ++ [33]) : List UInt8).drop 1) = k := by rw [show (33 :: (q ++ [33]) : List UInt8).drop 1 = q ++ 33 :: [] from rfl, ← hw.1]
  have hkM : wordsLen ((33 :: (q ++ 33 :: [97]) : List UInt8).drop 1) = k := hk
  have hb : byt (33 :: (q ++ 33 :: [97])) (1 + k) = byt (33 :: (q ++ [33])) (1 + k) := by
    rw [Nat.add_comm 1 k, byt_succ, byt_succ]
    by_cases h : k < q.length
    · rw [byt_append_left _ _ _ h, byt_append_left _ _ _ h]
    · rw [byt_append_right _ _ _ (by omega), byt_append_right _ _ _ (by omega), show k - q.length = 0 by omega]
      rfl
  have hR : handleR (33 :: (q ++ [33])) = if byt (33 :: (q ++ [33])) (1 + k) = 33 then k + 2 else 1 := by
    unfold handleR
    rw [hkR]
    by_cases h : byt (33 :: (q ++ [33])) (1 + k) = 33
    · rw [if_pos h, if_pos ⟨by simp; omega, h⟩]; omega
    · rw [if_neg h, if_neg (fun hh => h hh.2)]
  have hM : handleM (33 :: (q ++ 33 :: [97])) = if byt (33 :: (q ++ [33])) (1 + k) = 33 then k + 2 else 0 := by
    unfold handleM
    rw [hkM, hb]
    by_cases h : byt (33 :: (q ++ [33])) (1 + k) = 33
    · rw [if_pos h, if_pos ⟨by simp; omega, h⟩]; omega
    · rw [if_neg h, if_neg (fun hh => h hh.2)]
  have hs0 : ¬ ((33 :: (q ++ 33 :: [97]) : List UInt8) = [] ∨ byt (33 :: (q ++ 33 :: [97])) 0 ≠ 33) := by rintro (h1 | h1); cases h1; exact h1 rfl
  have hd1 : (33 :: (q ++ 33 :: [97]) : List UInt8).drop 1 = q ++ 33 :: [97] := rfl
  have hSR : sizeR (33 :: (q ++ 33 :: [97])) = q.length + 2 + 1 ↔ byt (33 :: (q ++ [33])) (1 + k) = 33 ∧ k = q.length := by
    unfold sizeR
    rw [hM, hd1]
    by_cases h : byt (33 :: (q ++ [33])) (1 + k) = 33
    · rw [if_pos h]
      by_cases hkq : k = q.length
      · have hdr : (33 :: (q ++ 33 :: [97]) : List UInt8).drop (k + 2) = [97] := by
          rw [hkq]
          show (q ++ 33 :: [97]).drop (q.length + 1) = _
          simp [List.drop_append]
        have hu1 : urisM true [97] = 1 := by decide
        rw [hdr, hu1, if_pos (by omega)]
        constructor
        · intro _; exact ⟨h, hkq⟩
        · intro _; omega
      · have hlt : k < q.length := by omega
        have hdr : (33 :: (q ++ 33 :: [97]) : List UInt8).drop (k + 2) = q.drop (k + 1) ++ 33 :: [97] := by
          show (q ++ 33 :: [97]).drop (k + 1) = _
          rw [List.drop_append_of_le_length (by omega)]
        have hu2 := uris_stop (q.drop (k + 1)) [97]
        rw [hdr]
        rw [List.length_drop] at hu2
        constructor
        · intro hh
          split at hh <;> omega
        · rintro ⟨_, h2⟩; omega
    · rw [if_neg h, if_neg (by omega)]
      constructor
      · intro hh; omega
      · rintro ⟨h1, _⟩; exact absurd h1 h
  have hsz : sizeM (33 :: (q ++ 33 :: [97])) = q.length + 2 + 1 ↔ sizeR (33 :: (q ++ 33 :: [97])) = q.length + 2 + 1 := by
    rw [sizeM, if_neg hs0]
    by_cases hc : pre2 33 60 (33 :: (q ++ 33 :: [97])) = true ∧ 0 < urisM false ((33 :: (q ++ 33 :: [97]) : List UInt8).drop 2) ∧ [62].isPrefixOf (((33 :: (q ++ 33 :: [97]) : List UInt8).drop 2).drop (urisM false ((33 :: (q ++ 33 :: [97]) : List UInt8).drop 2))) = true
    · rw [if_pos hc]
      obtain ⟨c1, c2, c3⟩ := hc
      obtain ⟨t, ht⟩ := pre2_form c1
      have hq : ∃ q', q = 60 :: q' := by
        cases q with
        | nil => simp at ht
        | cons b q' => simp at ht; exact ⟨q', by rw [ht.1]⟩
      obtain ⟨q', rfl⟩ := hq
      have hk0 : k = 0 := by rw [← hk]; rfl
      have hd2 : (33 :: (60 :: q' ++ 33 :: [97]) : List UInt8).drop 2 = q' ++ 33 :: [97] := rfl
      rw [hd2] at c2 c3 ⊢
      rw [hSR, hk0]
      constructor
      · intro hh
        exfalso
        have hn : urisM false (q' ++ 33 :: [97]) = q'.length + 1 := by simp at hh; omega
        rw [hn] at c3
        have h97 : (q' ++ (33 :: [97] : List UInt8)).drop (q'.length + 1) = [97] := by simp [List.drop_append]
        rw [h97] at c3
        exact absurd c3 (by decide)
      · rintro ⟨_, h2⟩; simp at h2
    · rw [if_neg hc]
  rw [Bool.eq_iff_iff, beq_iff_eq, beq_iff_eq, hsz, hSR, hR]
  constructor
  · rintro ⟨h1, h2⟩; rw [if_pos h1]; omega
  · intro hh
    split at hh
    · rename_i h1; exact ⟨h1, by omega⟩
    · omega
theorem suffix_last {l : List UInt8} (h : l ≠ []) : [33].isSuffixOf l = (byt l (l.length - 1) == 33) := by
  obtain ⟨q, b, rfl⟩ : ∃ q b, l = q ++ [b] := ⟨l.dropLast, l.getLast h, (List.dropLast_concat_getLast h).symm⟩
  rw [List.length_append, List.length_singleton, Nat.add_sub_cancel, byt_append_right _ _ _ (Nat.le_refl _), Nat.sub_self, Bool.eq_iff_iff, List.isSuffixOf_iff_suffix, beq_iff_eq]
  constructor
  · rintro ⟨t, ht⟩
    have := (List.append_inj' ht rfl).2
    injection this with h1 _
    rw [← h1]
    rfl
  · intro hb
    have : b = 33 := UInt8.toNat.inj hb
    rw [this]
    exact ⟨q, rfl⟩
theorem handled_eq (l : List UInt8) : handledM l = handledR l := by
  by_cases h0 : l = []
  · subst h0; decide
  by_cases h1 : l = [33]
  · subst h1; decide +kernel
  have hR : handledR l = (decide (2 ≤ l.length) && (byt l 0 == 33 && (handleR l == l.length && byt l (l.length - 1) == 33))) := by
    rw [handledR, beq_eq_false_iff_ne.2 h1]; rfl
  unfold handledM
  rw [hR, suffix_last h0]
  cases hl : (byt l (l.length - 1) == 33) with
  | false => simp
  | true =>
    obtain ⟨m, b, rfl⟩ : ∃ q b, l = q ++ [b] := ⟨l.dropLast, l.getLast h0, (List.dropLast_concat_getLast h0).symm⟩
    have hb : b = 33 := by
      rw [List.length_append, List.length_singleton, Nat.add_sub_cancel, byt_append_right _ _ _ (Nat.le_refl _), Nat.sub_self, beq_iff_eq] at hl
      exact UInt8.toNat.inj hl
    subst hb
    cases m with
    | nil => exact absurd rfl h1
    | cons c q =>
      by_cases hc : c = 33
      · subst hc
        have e1 : (33 :: q ++ [33] ++ [97] : List UInt8) = 33 :: (q ++ 33 :: [97]) := by simp
        have e2 : (33 :: q ++ [33] : List UInt8) = 33 :: (q ++ [33]) := rfl
        have e3 : (33 :: q ++ [33] : List UInt8).length = q.length + 2 := by simp
        have e4 : byt (33 :: q ++ [33]) 0 = 33 := rfl
        rw [e1, e3, e4, handled_core, e2]
        simp
      · have e4 : byt (c :: q ++ [33]) 0 ≠ 33 := fun h => hc (UInt8.toNat.inj h)
        have e5 : sizeM (c :: q ++ [33] ++ [97]) = 0 := by
          have e6 : byt (c :: q ++ [33] ++ [97]) 0 ≠ 33 := fun h => hc (UInt8.toNat.inj h)
          rw [sizeM, if_pos (.inr e6)]
        rw [e5, beq_eq_false_iff_ne.2 e4]
        simp
end U
end Go.Proofs.YtjnmgmepolpcdaaDoor
