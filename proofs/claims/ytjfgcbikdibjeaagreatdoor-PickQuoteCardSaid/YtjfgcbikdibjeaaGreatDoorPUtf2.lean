/- Plain laws on UTF-8: what is written is read; joining; cutting. No program in sight. -/
import Derived.Test.YtjfgcbikdibjeaaGreatDoorPUtf
import Derived.Lib.MapLaws
namespace Go.Proofs.YtjfgcbikdibjeaaGreatDoor
namespace U
open Go

/-- A number as a code point. -/
def fixr (r : Int) : Int := if (0 ≤ r ∧ r < 55296) ∨ (57343 < r ∧ r ≤ 1114111) then r else 65533

theorem byt_nil (i : Nat) : byt [] i = 0 := rfl
theorem tn (x : Int) (_h0 : 0 ≤ x) (h1 : x < 256) : (x.toNat.toUInt8).toNat = x.toNat := by
  simp; omega

theorem dec_one (l : List UInt8) (h : byt l 0 < 128) : dec l = (byt l 0, 1) := by
  unfold dec Lib.decodeN
  rw [if_pos h]
theorem dec_two (l : List UInt8) (hl : 2 ≤ l.length) (r : Nat) (h0 : 128 ≤ r) (h1 : r < 2048) (e0 : byt l 0 = 192 + r / 64) (e1 : byt l 1 = 128 + r % 64) : dec l = (r, 2) := by
  unfold dec Lib.decodeN
  rw [e0, e1, if_neg (by omega), if_pos (by omega), if_pos (by omega)]
  exact Prod.ext (by simp only []; omega) rfl
theorem dec_three (l : List UInt8) (hl : 3 ≤ l.length) (r : Nat) (h0 : 2048 ≤ r) (h1 : r < 65536) (h2 : r < 55296 ∨ 57343 < r) (e0 : byt l 0 = 224 + r / 4096) (e1 : byt l 1 = 128 + r / 64 % 64) (e2 : byt l 2 = 128 + r % 64) : dec l = (r, 3) := by
  unfold dec Lib.decodeN
  rw [e0, e1, e2, if_neg (by omega), if_neg (by omega), if_pos (by omega), if_pos (by omega)]
  exact Prod.ext (by simp only []; omega) rfl
theorem dec_four (l : List UInt8) (hl : 4 ≤ l.length) (r : Nat) (h0 : 65536 ≤ r) (h1 : r ≤ 1114111) (e0 : byt l 0 = 240 + r / 262144) (e1 : byt l 1 = 128 + r / 4096 % 64) (e2 : byt l 2 = 128 + r / 64 % 64) (e3 : byt l 3 = 128 + r % 64) : dec l = (r, 4) := by
  unfold dec Lib.decodeN
  rw [e0, e1, e2, e3, if_neg (by omega), if_neg (by omega), if_neg (by omega), if_pos (by omega), if_pos (by omega)]
  exact Prod.ext (by simp only []; omega) rfl

/-- What a number's bytes are read as, whatever stands behind. -/
theorem dec_enc (r : Int) (t : List UInt8) : dec (Lib.encodeRune r ++ t) = ((fixr r).toNat, (Lib.encodeRune r).length) := by
  by_cases hb : (0 ≤ r ∧ r < 55296) ∨ (57343 < r ∧ r ≤ 1114111)
  · obtain ⟨n, rfl⟩ := Int.eq_ofNat_of_zero_le (show 0 ≤ r by omega)
    have hf : (fixr n).toNat = n := by unfold fixr; rw [if_pos hb]; simp
    rw [hf]
    by_cases h1 : n ≤ 127
    · have he : Lib.encodeRune n = [(n : Int).toNat.toUInt8] := by unfold Lib.encodeRune; rw [Lib.encodeRuneZ_one (by omega) (by omega)]; rfl
      rw [he]
      have e0 : byt ([(n : Int).toNat.toUInt8] ++ t) 0 = n := by rw [List.cons_append, byt_zero, tn _ (by omega) (by omega)]; simp
      rw [dec_one _ (by rw [e0]; omega), e0]; rfl
    by_cases h2 : n ≤ 2047
    · have he : Lib.encodeRune n = [(192 + (n : Int) / 64).toNat.toUInt8, (128 + (n : Int) % 64).toNat.toUInt8] := by unfold Lib.encodeRune; rw [Lib.encodeRuneZ_two (by omega) (by omega)]; rfl
      rw [he]
      refine dec_two _ (by simp) n (by omega) (by omega) ?_ ?_
      · rw [List.cons_append, byt_zero, tn _ (by omega) (by omega)]; omega
      · rw [List.cons_append, byt_succ, List.cons_append, byt_zero, tn _ (by omega) (by omega)]; omega
    by_cases h3 : n ≤ 65535
    · have he : Lib.encodeRune n = [(224 + (n : Int) / 4096).toNat.toUInt8, (128 + (n : Int) / 64 % 64).toNat.toUInt8, (128 + (n : Int) % 64).toNat.toUInt8] := by unfold Lib.encodeRune; rw [Lib.encodeRuneZ_three (by omega)]; rfl
      rw [he]
      refine dec_three _ (by simp) n (by omega) (by omega) (by omega) ?_ ?_ ?_
      · rw [List.cons_append, byt_zero, tn _ (by omega) (by omega)]; omega
      · rw [List.cons_append, byt_succ, List.cons_append, byt_zero, tn _ (by omega) (by omega)]; omega
      · rw [List.cons_append, byt_succ, List.cons_append, byt_succ, List.cons_append, byt_zero, tn _ (by omega) (by omega)]; omega
    · have he : Lib.encodeRune n = [(240 + (n : Int) / 262144).toNat.toUInt8, (128 + (n : Int) / 4096 % 64).toNat.toUInt8, (128 + (n : Int) / 64 % 64).toNat.toUInt8, (128 + (n : Int) % 64).toNat.toUInt8] := by unfold Lib.encodeRune; rw [Lib.encodeRuneZ_four (by omega) (by omega)]; rfl
      rw [he]
      refine dec_four _ (by simp) n (by omega) (by omega) ?_ ?_ ?_ ?_
      · rw [List.cons_append, byt_zero, tn _ (by omega) (by omega)]; omega
      · rw [List.cons_append, byt_succ, List.cons_append, byt_zero, tn _ (by omega) (by omega)]; omega
      · rw [List.cons_append, byt_succ, List.cons_append, byt_succ, List.cons_append, byt_zero, tn _ (by omega) (by omega)]; omega
      · rw [List.cons_append, byt_succ, List.cons_append, byt_succ, List.cons_append, byt_succ, List.cons_append, byt_zero, tn _ (by omega) (by omega)]; omega
  · have he : Lib.encodeRune r = [239, 191, 189] := by unfold Lib.encodeRune; rw [Lib.encodeRuneZ_bad (by omega)]; rfl
    have hf : fixr r = 65533 := by unfold fixr; rw [if_neg hb]
    rw [he, hf]
    exact dec_three _ (by simp) 65533 (by omega) (by omega) (by omega) rfl rfl rfl

theorem encR_pos (x : Int) : 1 ≤ (Lib.encodeRune x).length := by
  have := Lib.runeCells_le x
  rw [Lib.runeCells_length] at this
  exact this.1
theorem encR_ne (x : Int) (t : List UInt8) : Lib.encodeRune x ++ t ≠ [] := by
  have := encR_pos x
  intro h
  rw [List.append_eq_nil_iff] at h
  rw [h.1] at this
  simp at this
theorem fixr_ge (r : Int) : 0 ≤ fixr r := by unfold fixr; split <;> omega

theorem units_enc (r : Int) (t : List UInt8) (pos : Nat) : units pos (Lib.encodeRune r ++ t) = (pos, (fixr r).toNat, (Lib.encodeRune r).length) :: units (pos + (Lib.encodeRune r).length) t := by
  rw [units_cons _ _ (encR_ne r t), dec_enc]
  simp

/-- It is not what no code point is read as. -/
theorem fixr_ok (r : Int) : ((fixr r).toNat == 65533 && (Lib.encodeRune r).length == 1) = false := by
  rw [Bool.and_eq_false_iff]
  by_cases h : (fixr r).toNat = 65533
  · right
    have hr : r = 65533 ∨ ¬ ((0 ≤ r ∧ r < 55296) ∨ (57343 < r ∧ r ≤ 1114111)) := by
      unfold fixr at h
      split at h
      · left; omega
      · right; assumption
    rcases hr with rfl | hb
    · decide
    · have he : Lib.encodeRune r = [239, 191, 189] := by unfold Lib.encodeRune; rw [Lib.encodeRuneZ_bad (by omega)]; rfl
      rw [he]; rfl
  · left; simpa using h

theorem enc_cons (x : Int) (xs : List Int) : enc (x :: xs) = Lib.encodeRune x ++ enc xs := by simp [enc]
theorem enc_append (xs ys : List Int) : enc (xs ++ ys) = enc xs ++ enc ys := by simp [enc]

theorem place_enc_at (xs : List Int) : ∀ pos, placeOf (units pos (enc xs)) = -1 := by
  induction xs with
  | nil => intro pos; rfl
  | cons x xs ih =>
    intro pos
    rw [enc_cons, units_enc, placeOf_good _ _ (fixr_ok x), ih]
theorem place_enc (xs : List Int) : place (enc xs) = -1 := place_enc_at xs 0
theorem units_enc_runes (xs : List Int) : ∀ pos, (units pos (enc xs)).map (fun u => (u.2.1 : Int)) = xs.map fixr := by
  induction xs with
  | nil => intro pos; rfl
  | cons x xs ih =>
    intro pos
    rw [enc_cons, units_enc, List.map_cons, List.map_cons, ih]
    have := fixr_ge x
    simp only [Int.toNat_of_nonneg this]
theorem runes_enc (xs : List Int) : runes (enc xs) = xs.map fixr := units_enc_runes xs 0
theorem width_enc (xs : List Int) : width (enc xs) = xs.length := by
  rw [← runes_length, runes_enc, List.length_map]

/-! ### What is read is written as it was, where it is a code point. -/
theorem decodeL_eq (l : List UInt8) : Lib.decodeL l = dec l := by
  unfold Lib.decodeL
  rw [decode_mk]
  rfl
theorem encR_dec (l : List UInt8) (hne : l ≠ []) (h : bad l = false) : Lib.encodeRune ((dec l).1 : Int) = l.take (dec l).2 := by
  have := Lib.encode_decode l hne (by
    rw [decodeL_eq]
    intro hh
    simp [bad, hh.1, hh.2] at h)
  rwa [decodeL_eq] at this

theorem dec_valid (l : List UInt8) : (dec l).1 < 55296 ∨ (57343 < (dec l).1 ∧ (dec l).1 ≤ 1114111) := by
  have h0 := byt_lt l 0
  have h1 := byt_lt l 1
  unfold dec Lib.decodeN
  repeat' split
  all_goals simp only []
  all_goals omega
theorem fixr_dec (l : List UInt8) : fixr ((dec l).1 : Int) = (dec l).1 := by
  have := dec_valid l
  unfold fixr
  rw [if_pos (by omega)]

theorem units_whole (f : Nat) : ∀ (l : List UInt8) (pos : Nat), l.length ≤ f → placeOf (units pos l) = -1 → enc ((units pos l).map fun u => (u.2.1 : Int)) = l := by
  induction f with
  | zero =>
    intro l pos hf _
    have : l = [] := by cases l <;> simp_all
    subst this
    rfl
  | succ f ih =>
    intro l pos hf hp
    by_cases hne : l = []
    · subst hne; rfl
    have hw1 := dec_w_pos l
    have hw2 := dec_w_le l hne
    rw [units_cons pos l hne] at hp ⊢
    cases hb : bad l with
    | true =>
      rw [placeOf_bad _ _ (by simpa [bad] using hb)] at hp
      simp only [] at hp
      omega
    | false =>
      rw [placeOf_good _ _ (by simpa [bad] using hb)] at hp
      rw [List.map_cons, enc_cons, ih _ _ (by rw [List.length_drop]; omega) hp, encR_dec l hne hb, List.take_append_drop]
theorem enc_runes {l : List UInt8} (h : place l = -1) : enc (runes l) = l := units_whole l.length l 0 (Nat.le_refl _) h

set_option maxRecDepth 100000 in
theorem runes_fix (l : List UInt8) : (runes l).map fixr = runes l := by
  unfold runes
  rw [List.map_map]
  apply List.map_congr_left
  intro u hu
  have : ∀ (f pos : Nat) (l : List UInt8), ∀ u ∈ unitsF f pos l, ∃ m, u.2 = dec m := by
    intro f
    induction f with
    | zero => intro pos l u hu; simp [unitsF] at hu
    | succ f ih =>
      intro pos l u hu
      cases l with
      | nil => simp [unitsF] at hu
      | cons b t =>
        simp only [unitsF, List.mem_cons] at hu
        rcases hu with rfl | hu
        · exact ⟨_, rfl⟩
        · exact ih _ _ u hu
  obtain ⟨m, hm⟩ := this _ _ _ u hu
  have h := fixr_dec m
  rw [← hm] at h
  simp only [Function.comp]
  exact h

theorem place_enc_runes (l : List UInt8) : (enc (runes l) = l) ↔ place l = -1 := by
  constructor
  · intro h
    rw [← h]
    exact place_enc _
  · exact enc_runes
theorem width_enc_runes (l : List UInt8) : width (enc (runes l)) = width l := by rw [width_enc, runes_length]

/-! ### Two texts, of which the first one is whole. -/
theorem dec_append (m b : List UInt8) (hne : m ≠ []) (h : bad m = false) : dec (m ++ b) = dec m := by
  have h2 := encR_dec m hne h
  have h3 := fixr_dec m
  have hw := dec_w_le m hne
  have e1 : m = Lib.encodeRune ((dec m).1 : Int) ++ m.drop (dec m).2 := by rw [h2, List.take_append_drop]
  have hlen : (Lib.encodeRune ((dec m).1 : Int)).length = (dec m).2 := by rw [h2, List.length_take]; omega
  have e2 : m ++ b = Lib.encodeRune ((dec m).1 : Int) ++ (m.drop (dec m).2 ++ b) := by rw [h2, ← List.append_assoc, List.take_append_drop]
  rw [e2, dec_enc, h3, hlen]
  simp

theorem units_append (f : Nat) : ∀ (a : List UInt8) (pos : Nat) (b : List UInt8), a.length ≤ f → placeOf (units pos a) = -1 → units pos (a ++ b) = units pos a ++ units (pos + a.length) b := by
  induction f with
  | zero =>
    intro a pos b hf _
    have : a = [] := by cases a <;> simp_all
    subst this
    simp [units_nil]
  | succ f ih =>
    intro a pos b hf hp
    by_cases hne : a = []
    · subst hne; simp [units_nil]
    have hw1 := dec_w_pos a
    have hw2 := dec_w_le a hne
    rw [units_cons pos a hne] at hp
    rw [units_cons pos a hne, units_cons pos (a ++ b) (by simp [hne])]
    cases hb : bad a with
    | true =>
      rw [placeOf_bad _ _ (by simpa [bad] using hb)] at hp
      simp only [] at hp
      omega
    | false =>
      rw [placeOf_good _ _ (by simpa [bad] using hb)] at hp
      rw [dec_append a b hne hb, List.drop_append_of_le_length hw2, ih _ _ b (by rw [List.length_drop]; omega) hp, List.length_drop, List.cons_append]
      congr 3
      omega
theorem placeOf_append (us vs : List (Nat × Nat × Nat)) (h : placeOf us = -1) : placeOf (us ++ vs) = placeOf vs := by
  induction us with
  | nil => rfl
  | cons u us ih =>
    cases hb : (u.2.1 == 65533 && u.2.2 == 1) with
    | true => rw [placeOf_bad _ _ hb] at h; omega
    | false =>
      rw [placeOf_good _ _ hb] at h
      rw [List.cons_append, placeOf_good _ _ hb, ih h]
theorem unitsF_shift (f : Nat) : ∀ (l : List UInt8) (pos : Nat), unitsF f pos l = (unitsF f 0 l).map fun u => (pos + u.1, u.2) := by
  induction f with
  | zero => intro l pos; rfl
  | succ f ih =>
    intro l pos
    cases l with
    | nil => rfl
    | cons b t =>
      simp only [unitsF, List.map_cons, Nat.zero_add, Nat.add_zero]
      rw [ih _ (pos + _), ih _ (dec (b :: t)).2, List.map_map]
      congr 1
      apply List.map_congr_left
      intro u _
      simp only [Function.comp]
      rw [Nat.add_assoc]
theorem units_shift (l : List UInt8) (pos : Nat) : units pos l = (units 0 l).map fun u => (pos + u.1, u.2) := unitsF_shift _ _ _
theorem placeOf_shift (us : List (Nat × Nat × Nat)) (k : Nat) : placeOf (us.map fun u => (k + u.1, u.2)) = if 0 ≤ placeOf us then placeOf us + k else -1 := by
  induction us with
  | nil => rfl
  | cons u us ih =>
    cases hb : (u.2.1 == 65533 && u.2.2 == 1) with
    | true =>
      rw [List.map_cons, placeOf_bad u _ hb, placeOf_bad (k + u.1, u.2) _ hb, if_pos (by omega)]
      simp only []
      omega
    | false => rw [List.map_cons, placeOf_good u _ hb, placeOf_good (k + u.1, u.2) _ hb, ih]
theorem place_ge (l : List UInt8) : -1 ≤ place l := by
  unfold place placeOf
  split <;> omega
theorem unitsF_at (f : Nat) : ∀ (l : List UInt8) (pos : Nat), ∀ u ∈ unitsF f pos l, u.1 < pos + l.length := by
  induction f with
  | zero => intro l pos u hu; simp [unitsF] at hu
  | succ f ih =>
    intro l pos u hu
    cases l with
    | nil => simp [unitsF] at hu
    | cons b t =>
      have hw := dec_w_le (b :: t) (by simp)
      simp only [unitsF, List.mem_cons] at hu
      rcases hu with rfl | hu
      · simp
      · have := ih _ _ u hu
        rw [List.length_drop] at this
        omega
theorem place_le (l : List UInt8) : place l ≤ l.length := by
  unfold place placeOf
  split
  · rename_i u hu
    have := unitsF_at l.length l 0 u (List.mem_of_find?_eq_some hu)
    omega
  · omega
theorem runes_append {a : List UInt8} (b : List UInt8) (h : place a = -1) : runes (a ++ b) = runes a ++ runes b := by
  unfold runes
  rw [units_append a.length a 0 b (Nat.le_refl _) h, List.map_append, units_shift b, List.map_map]
  rfl
theorem width_append {a : List UInt8} (b : List UInt8) (h : place a = -1) : width (a ++ b) = width a + width b := by
  rw [← runes_length, runes_append b h, List.length_append, runes_length, runes_length]
theorem place_append {a : List UInt8} (b : List UInt8) (h : place a = -1) : place (a ++ b) = if 0 ≤ place b then place b + a.length else place b := by
  have hg := place_ge b
  unfold place
  rw [units_append a.length a 0 b (Nat.le_refl _) h, placeOf_append _ _ h, units_shift b, placeOf_shift]
  show (if 0 ≤ place b then _ else _) = if 0 ≤ place b then _ else _
  split
  · show place b + _ = place b + _
    omega
  · show _ = place b
    omega

/-! ### A code point's bytes, cut. -/
theorem dec_lone (l : List UInt8) (h0 : 128 ≤ byt l 0) (h1 : byt l 0 < 194 ∨ 245 ≤ byt l 0) : dec l = (65533, 1) := by
  have hb : bad l = true := by
    cases hb : bad l with
    | true => rfl
    | false =>
      exfalso
      have h2 := one_good hb
      have h3 := one_eq l
      rw [h2] at h3
      have h4 := dec_w_pos l
      unfold oneN at h3
      rw [if_neg (by omega)] at h3
      rcases h1 with h1 | h1
      · rw [if_pos h1] at h3
        rw [h3] at h4
        simp at h4
      · rw [if_neg (by omega), if_neg (by omega), if_neg (by omega), if_neg (by omega)] at h3
        rw [h3] at h4
        simp at h4
  exact dec_bad hb
/-- Bytes of which none begins a code point. -/
theorem units_lone (f : Nat) : ∀ (l : List UInt8) (pos : Nat), l.length ≤ f → (∀ i, i < l.length → 128 ≤ byt l i ∧ (byt l i < 194 ∨ 245 ≤ byt l i)) → (units pos l).length = l.length := by
  induction f with
  | zero =>
    intro l pos hf _
    have : l = [] := by cases l <;> simp_all
    subst this
    rfl
  | succ f ih =>
    intro l pos hf h
    by_cases hne : l = []
    · subst hne; rfl
    have hp : 0 < l.length := List.length_pos_iff.2 hne
    have h0 := h 0 hp
    rw [units_cons pos l hne, dec_lone l h0.1 h0.2, List.length_cons, ih _ _ (by rw [List.length_drop]; simp only []; omega) ?_, List.length_drop]
    · simp only []; omega
    · intro i hi
      rw [byt_drop]
      rw [List.length_drop] at hi
      exact h _ (by simp only [] at hi ⊢; omega)

end U
end Go.Proofs.YtjfgcbikdibjeaaGreatDoor
