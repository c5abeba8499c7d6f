/- Plain laws: a code point's bytes, cut. -/
import Derived.Test.YtjfgcbikdibjeaaGreatDoorPUtf2
namespace Go.Proofs.YtjfgcbikdibjeaaGreatDoor
namespace U
open Go

/-- A text begins with a head of so many bytes. -/
def headOf (L b : Nat) : Prop := (L = 2 ∧ 194 ≤ b ∧ b < 224) ∨ (L = 3 ∧ 224 ≤ b ∧ b < 240) ∨ (L = 4 ∧ 240 ≤ b ∧ b < 245)

theorem enc_head (r : Nat) (h0 : 128 ≤ r) (h1 : r < 55296 ∨ (57343 < r ∧ r ≤ 1114111)) :
    headOf (Lib.encodeRune r).length (byt (Lib.encodeRune r) 0) ∧ ∀ i, 1 ≤ i → i < (Lib.encodeRune r).length → 128 ≤ byt (Lib.encodeRune r) i ∧ byt (Lib.encodeRune r) i < 192 := by
  by_cases h2 : r ≤ 2047
  · have he : Lib.encodeRune r = [(192 + (r : Int) / 64).toNat.toUInt8, (128 + (r : Int) % 64).toNat.toUInt8] := by unfold Lib.encodeRune; rw [Lib.encodeRuneZ_two (by omega) (by omega)]; rfl
    rw [he]
    refine ⟨Or.inl ⟨rfl, ?_⟩, fun i hi1 hi2 => ?_⟩
    · rw [byt_zero, tn _ (by omega) (by omega)]; omega
    · simp only [List.length_cons, List.length_nil] at hi2
      obtain rfl : i = 1 := by omega
      rw [byt_succ, byt_zero, tn _ (by omega) (by omega)]; omega
  by_cases h3 : r ≤ 65535
  · have he : Lib.encodeRune r = [(224 + (r : Int) / 4096).toNat.toUInt8, (128 + (r : Int) / 64 % 64).toNat.toUInt8, (128 + (r : Int) % 64).toNat.toUInt8] := by unfold Lib.encodeRune; rw [Lib.encodeRuneZ_three (by omega)]; rfl
    rw [he]
    refine ⟨Or.inr (Or.inl ⟨rfl, ?_⟩), fun i hi1 hi2 => ?_⟩
    · rw [byt_zero, tn _ (by omega) (by omega)]; omega
    · simp only [List.length_cons, List.length_nil] at hi2
      rcases (show i = 1 ∨ i = 2 by omega) with rfl | rfl
      · rw [byt_succ, byt_zero, tn _ (by omega) (by omega)]; omega
      · rw [byt_succ, byt_succ, byt_zero, tn _ (by omega) (by omega)]; omega
  · have he : Lib.encodeRune r = [(240 + (r : Int) / 262144).toNat.toUInt8, (128 + (r : Int) / 4096 % 64).toNat.toUInt8, (128 + (r : Int) / 64 % 64).toNat.toUInt8, (128 + (r : Int) % 64).toNat.toUInt8] := by unfold Lib.encodeRune; rw [Lib.encodeRuneZ_four (by omega) (by omega)]; rfl
    rw [he]
    refine ⟨Or.inr (Or.inr ⟨rfl, ?_⟩), fun i hi1 hi2 => ?_⟩
    · rw [byt_zero, tn _ (by omega) (by omega)]; omega
    · simp only [List.length_cons, List.length_nil] at hi2
      rcases (show i = 1 ∨ i = 2 ∨ i = 3 by omega) with rfl | rfl | rfl
      · rw [byt_succ, byt_zero, tn _ (by omega) (by omega)]; omega
      · rw [byt_succ, byt_succ, byt_zero, tn _ (by omega) (by omega)]; omega
      · rw [byt_succ, byt_succ, byt_succ, byt_zero, tn _ (by omega) (by omega)]; omega

/-- A head of L bytes, of which one lacks or is none of a code point's. -/
theorem bad_of_cut {m : List UInt8} {L : Nat} (h : headOf L (byt m 0)) (hc : m.length < L ∨ ∃ k, 1 ≤ k ∧ k < L ∧ byt m k = 255) : bad m = true := by
  cases hb : bad m with
  | true => rfl
  | false =>
    exfalso
    have h2 := one_good hb
    have h3 := one_eq m
    rw [h2] at h3
    have h4 := dec_w_pos m
    unfold oneN at h3
    unfold headOf at h
    have hx : ∀ {a : Nat × Nat}, dec m = a → 1 ≤ a.2 := by rintro a rfl; exact h4
    have key : m.length < L ∨ byt m 1 = 255 ∧ 1 < L ∨ byt m 2 = 255 ∧ 2 < L ∨ byt m 3 = 255 ∧ 3 < L := by
      rcases hc with hc | ⟨k, k1, k2, k3⟩
      · exact Or.inl hc
      · rcases (show k = 1 ∨ k = 2 ∨ k = 3 by omega) with rfl | rfl | rfl
        · exact Or.inr (Or.inl ⟨k3, k2⟩)
        · exact Or.inr (Or.inr (Or.inl ⟨k3, k2⟩))
        · exact Or.inr (Or.inr (Or.inr ⟨k3, k2⟩))
    have h5 := hx h3
    rcases h with ⟨rfl, ha, hb'⟩ | ⟨rfl, ha, hb'⟩ | ⟨rfl, ha, hb'⟩
    · rw [if_neg (by omega), if_neg (by omega), if_pos (by omega), if_neg (by omega)] at h5
      exact absurd h5 (by decide)
    · rw [if_neg (by omega), if_neg (by omega), if_neg (by omega), if_pos (by omega), if_neg (by omega)] at h5
      exact absurd h5 (by decide)
    · rw [if_neg (by omega), if_neg (by omega), if_neg (by omega), if_neg (by omega), if_pos (by omega), if_neg (by omega)] at h5
      exact absurd h5 (by decide)

/-- Its head is no code point's, the others begin none. -/
theorem cut_all {m : List UInt8} (hne : m ≠ []) (hb : bad m = true) (hr : ∀ i, 1 ≤ i → i < m.length → 128 ≤ byt m i ∧ (byt m i < 194 ∨ 245 ≤ byt m i)) : place m = 0 ∧ width m = m.length := by
  have hp : 0 < m.length := List.length_pos_iff.2 hne
  constructor
  · unfold place
    rw [units_cons 0 m hne, placeOf_bad _ _ (by simpa [bad] using hb)]
    rfl
  · unfold width
    rw [units_cons 0 m hne, dec_bad hb, List.length_cons, units_lone m.length _ _ (by rw [List.length_drop]; simp only []; omega) ?_, List.length_drop]
    · simp only []; omega
    · intro i hi
      rw [byt_drop]
      rw [List.length_drop] at hi
      exact hr _ (by simp only []; omega) (by simp only [] at hi ⊢; omega)

theorem byt_take (l : List UInt8) (k i : Nat) (h : i < k) : byt (l.take k) i = byt l i := by
  unfold byt
  rw [List.getD_eq_getElem?_getD, List.getD_eq_getElem?_getD, List.getElem?_take_of_lt h]

theorem cut_front {s : List UInt8} (h : headOf s.length (byt s 0)) (hr : ∀ i, 1 ≤ i → i < s.length → 128 ≤ byt s i ∧ byt s i < 192) {k : Nat} (k1 : 1 ≤ k) (k2 : k < s.length) :
    place (s.take k) = 0 ∧ width (s.take k) = k := by
  have hl : (s.take k).length = k := by rw [List.length_take]; omega
  have := cut_all (m := s.take k) (by intro hh; rw [hh] at hl; simp at hl; omega) (bad_of_cut (L := s.length) (by rw [byt_take _ _ _ (by omega)]; exact h) (Or.inl (by omega))) (fun i h1 h2 => by
    rw [byt_take _ _ _ (by omega)]
    have := hr i h1 (by omega)
    omega)
  rwa [hl] at this

theorem cut_turned {s : List UInt8} (h : headOf s.length (byt s 0)) (hr : ∀ i, 1 ≤ i → i < s.length → 128 ≤ byt s i ∧ byt s i < 192) {k : Nat} (k1 : 1 ≤ k) (k2 : k < s.length) :
    place (s.take k ++ [255] ++ s.drop (k + 1)) = 0 ∧ width (s.take k ++ [255] ++ s.drop (k + 1)) = s.length := by
  have hl : (s.take k).length = k := by rw [List.length_take]; omega
  have hlen : (s.take k ++ [255] ++ s.drop (k + 1)).length = s.length := by simp; omega
  have hlow : ∀ i, i < k → byt (s.take k ++ [255] ++ s.drop (k + 1)) i = byt s i := by
    intro i hi
    rw [List.append_assoc, byt_append_left _ _ _ (by omega), byt_take _ _ _ hi]
  have hat : byt (s.take k ++ [255] ++ s.drop (k + 1)) k = 255 := by
    rw [List.append_assoc, byt_append_right _ _ _ (by omega), hl, Nat.sub_self]; rfl
  have hhigh : ∀ i, k < i → byt (s.take k ++ [255] ++ s.drop (k + 1)) i = byt s i := by
    intro i hi
    rw [byt_append_right _ _ _ (by simp [hl]; omega), byt_drop]
    congr 1
    simp [hl]; omega
  have := cut_all (m := s.take k ++ [255] ++ s.drop (k + 1)) (by intro hh; rw [hh] at hlen; simp at hlen; omega)
    (bad_of_cut (L := s.length) (by rw [hlow 0 (by omega)]; exact h) (Or.inr ⟨k, k1, k2, hat⟩)) (fun i h1 h2 => by
      rcases Nat.lt_trichotomy i k with hi | hi | hi
      · rw [hlow i hi]; have := hr i h1 (by omega); omega
      · subst hi; rw [hat]; omega
      · rw [hhigh i hi]; have := hr i h1 (by omega); omega)
  rwa [hlen] at this

theorem cut_back {s : List UInt8} (hr : ∀ i, 1 ≤ i → i < s.length → 128 ≤ byt s i ∧ byt s i < 192) {k : Nat} (k1 : 1 ≤ k) (k2 : k < s.length) :
    place (97 :: s.drop k) = 1 := by
  have hne : s.drop k ≠ [] := by intro hh; have := congrArg List.length hh; simp at this; omega
  have hb : place (s.drop k) = 0 := by
    unfold place
    rw [units_cons 0 _ hne, placeOf_bad _ _]
    · rfl
    · have := hr k k1 k2
      rw [dec_lone (s.drop k) (by rw [byt_drop]; simpa using this.1) (by rw [byt_drop]; left; simpa using (by omega : byt s k < 194))]
      rfl
  have := place_append (a := [97]) (s.drop k) (by decide)
  rw [List.singleton_append] at this
  rw [this, hb]
  rfl
end U
end Go.Proofs.YtjfgcbikdibjeaaGreatDoor
