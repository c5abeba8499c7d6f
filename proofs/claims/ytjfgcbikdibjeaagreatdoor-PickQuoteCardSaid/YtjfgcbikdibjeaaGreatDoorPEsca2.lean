/- Plain laws on escapes: how code points are told, and that what is told is read. -/
import Derived.Test.YtjfgcbikdibjeaaGreatDoorPEsca
import Derived.Test.YtjfgcbikdibjeaaGreatDoorPUtf2
import Derived.Test.YtjfgcbikdibjeaaGreatDoorPText
namespace Go.Proofs.YtjfgcbikdibjeaaGreatDoor
namespace U
open Go

/-- How a code point is told by a letter. -/
def letM (r : Int) : List UInt8 :=
  if r = 34 then [92, 34] else if r = 92 then [92, 92] else if r = 0 then [92, 48] else if r = 27 then [92, 101]
  else if r = 7 then [92, 97] else if r = 8 then [92, 98] else if r = 9 then [92, 116] else if r = 10 then [92, 110] else if r = 11 then [92, 118] else if r = 12 then [92, 102] else if r = 13 then [92, 114] else []
def hexC (d : Nat) : UInt8 := [48, 49, 50, 51, 52, 53, 54, 55, 56, 57, 97, 98, 99, 100, 101, 102].getD d 48
def hexE : Nat → Nat → List UInt8
  | 0, _ => []
  | k + 1, n => hexE k (n / 16) ++ [hexC (n % 16)]
theorem hexE_length : ∀ (k n : Nat), (hexE k n).length = k := by
  intro k
  induction k with
  | zero => intro n; rfl
  | succ k ih => intro n; rw [hexE, List.length_append, ih]; rfl
def codedM (r : Nat) : List UInt8 := if r ≤ 255 then [92, 120] ++ hexE 2 r else if r ≤ 65535 then [92, 117] ++ hexE 4 r else [92, 85] ++ hexE 8 r
/-- How any number is told. -/
def showM (r : Int) : List UInt8 := if letM (fixr r) ≠ [] then letM (fixr r) else if printable (fixr r) then Lib.encodeRune (fixr r) else codedM (fixr r).toNat
theorem hexC_all : ∀ d, d < 16 → hexD (hexC d).toNat = some d := by decide
theorem hexF_app : ∀ (a b : List UInt8) (n : Nat), hexF (a ++ b) n = match hexF a n with | none => none | some k => hexF b k := by
  intro a
  induction a with
  | nil => intro b n; rfl
  | cons x a ih =>
    intro b n
    rw [List.cons_append, hexF, hexF]
    cases hexD x.toNat with
    | none => rfl
    | some d => exact ih b _
theorem hexF_hexN : ∀ (k n m : Nat), n < 16 ^ k → hexF (hexE k n) m = some (m * 16 ^ k + n) := by
  intro k
  induction k with
  | zero => intro n m h; simp at h; subst h; simp [hexE, hexF]
  | succ k ih =>
    intro n m h
    rw [hexE, hexF_app, ih (n / 16) m (by rw [Nat.pow_succ] at h; omega)]
    show hexF [hexC (n % 16)] _ = _
    rw [hexF, hexC_all _ (by omega)]
    show some ((m * 16 ^ k + n / 16) * 16 + n % 16) = _
    congr 1
    rw [Nat.add_mul, Nat.pow_succ, Nat.mul_assoc]
    omega
theorem byt_at (a t : List UInt8) (i : Nat) : byt (a ++ t) (a.length + i) = byt t i := by
  rw [byt_append_right _ _ _ (by omega)]
  congr 1; omega
/-- An escape of hex digits, wherever it stands, is read. -/
theorem esc_coded (a t : List UInt8) (n : Nat) (hn : scalarN n) : escM (a ++ codedM n ++ t) a.length = ((n : Int), ((a.length + (codedM n).length : Nat) : Int), 0) := by
  have key : ∀ (c : UInt8) (k : Nat), shortM c.toNat = none → digM c.toNat = k → 0 < k → n < 16 ^ k → escM (a ++ ([92, c] ++ hexE k n) ++ t) a.length = ((n : Int), ((a.length + ([92, c] ++ hexE k n).length : Nat) : Int), 0) := by
    intro c k hs hd h0 hk
    have hl := hexE_length k n
    have e : a ++ ([92, c] ++ hexE k n) ++ t = a ++ (92 :: c :: (hexE k n ++ t)) := by simp
    rw [e]
    have b0 : byt (a ++ (92 :: c :: (hexE k n ++ t))) a.length = 92 := byt_at a _ 0
    have b1 : byt (a ++ (92 :: c :: (hexE k n ++ t))) (a.length + 1) = c.toNat := byt_at a _ 1
    have hd2 : (a ++ (92 :: c :: (hexE k n ++ t))).drop (a.length + 2) = hexE k n ++ t := by
      rw [← List.drop_drop, List.drop_left]; rfl
    have hlen : (a ++ (92 :: c :: (hexE k n ++ t))).length = a.length + (2 + k + t.length) := by simp [hl]; omega
    unfold escM
    rw [show ((a.length : Int)).toNat = a.length from rfl, b0, b1, hs, hd, hlen, if_neg (by omega)]
    simp only
    rw [if_neg (by omega), hd2, List.take_left' hl]
    have : hexO (hexE k n) = some n := by
      unfold hexO
      rw [hexF_hexN k n 0 hk]
      simp only [Nat.zero_mul, Nat.zero_add]
      rw [if_pos hn]
    rw [this]
    simp only [List.length_append, List.length_cons, List.length_nil, hl]
    refine Prod.ext rfl (Prod.ext ?_ rfl)
    simp only
    omega
  unfold codedM
  split
  · exact key 120 2 (by decide) (by decide) (by decide) (by omega)
  · split
    · exact key 117 4 (by decide) (by decide) (by decide) (by omega)
    · have := hn.1
      exact key 85 8 (by decide) (by decide) (by decide) (by omega)
/-- An escape by a letter is read. -/
theorem esc_let (a t : List UInt8) (r : Int) (h : letM r ≠ []) : escM (a ++ letM r ++ t) a.length = (r, ((a.length + (letM r).length : Nat) : Int), 0) ∧ ∃ c, letM r = [92, c] ∧ c.toNat < 128 ∧ 32 ≤ c.toNat := by
  have key : ∀ (c : UInt8) (v : Nat), shortM c.toNat = some v → escM (a ++ [92, c] ++ t) a.length = ((v : Int), ((a.length + 2 : Nat) : Int), 0) := by
    intro c v hs
    have e : a ++ [92, c] ++ t = a ++ (92 :: c :: t) := by simp
    rw [e]
    have b0 : byt (a ++ (92 :: c :: t)) a.length = 92 := byt_at a _ 0
    have b1 : byt (a ++ (92 :: c :: t)) (a.length + 1) = c.toNat := byt_at a _ 1
    have hlen : (a ++ (92 :: c :: t)).length = a.length + (2 + t.length) := by simp; omega
    unfold escM
    rw [show ((a.length : Int)).toNat = a.length from rfl, b0, b1, hs, hlen, if_neg (by omega)]
    refine Prod.ext rfl (Prod.ext ?_ rfl)
    simp only
    omega
  have hr : r = 34 ∨ r = 92 ∨ r = 0 ∨ r = 27 ∨ r = 7 ∨ r = 8 ∨ r = 9 ∨ r = 10 ∨ r = 11 ∨ r = 12 ∨ r = 13 := by
    unfold letM at h
    repeat' split at h
    all_goals first
      | omega
      | exact absurd rfl h
  rcases hr with rfl | rfl | rfl | rfl | rfl | rfl | rfl | rfl | rfl | rfl | rfl
  · exact ⟨key 34 34 (by decide), 34, rfl, by decide, by decide⟩
  · exact ⟨key 92 92 (by decide), 92, rfl, by decide, by decide⟩
  · exact ⟨key 48 0 (by decide), 48, rfl, by decide, by decide⟩
  · exact ⟨key 101 27 (by decide), 101, rfl, by decide, by decide⟩
  · exact ⟨key 97 7 (by decide), 97, rfl, by decide, by decide⟩
  · exact ⟨key 98 8 (by decide), 98, rfl, by decide, by decide⟩
  · exact ⟨key 116 9 (by decide), 116, rfl, by decide, by decide⟩
  · exact ⟨key 110 10 (by decide), 110, rfl, by decide, by decide⟩
  · exact ⟨key 118 11 (by decide), 118, rfl, by decide, by decide⟩
  · exact ⟨key 102 12 (by decide), 102, rfl, by decide, by decide⟩
  · exact ⟨key 114 13 (by decide), 114, rfl, by decide, by decide⟩
theorem let_range {r : Int} (h : letM r ≠ []) : 0 ≤ r ∧ r ≤ 92 := by
  unfold letM at h
  repeat' split at h
  all_goals first
    | omega
    | exact absurd rfl h
/-- A code point's own bytes. -/
theorem encR_first {r : Int} (h0 : 0 ≤ r) (h1 : r ≤ 1114111) (hs : ¬ (55296 ≤ r ∧ r ≤ 57343)) : (r < 128 ∧ Lib.encodeRune r = [r.toNat.toUInt8]) ∨ (128 ≤ r ∧ ∀ b ∈ Lib.encodeRune r, 128 ≤ b.toNat) := by
  by_cases h : r < 128
  · left
    exact ⟨h, by unfold Lib.encodeRune; rw [Lib.encodeRuneZ_one h0 (by omega)]; rfl⟩
  · right
    refine ⟨by omega, fun b hb => ?_⟩
    unfold Lib.encodeRune at hb
    obtain ⟨x, hx, rfl⟩ := List.mem_map.1 hb
    by_cases h2 : r ≤ 2047
    · rw [Lib.encodeRuneZ_two (by omega) h2] at hx
      simp at hx
      rcases hx with rfl | rfl <;> (rw [tn _ (by omega) (by omega)]; omega)
    · by_cases h3 : r ≤ 65535
      · rw [Lib.encodeRuneZ_three (by omega)] at hx
        simp at hx
        rcases hx with rfl | rfl | rfl <;> (rw [tn _ (by omega) (by omega)]; omega)
      · rw [Lib.encodeRuneZ_four (by omega) h1] at hx
        simp at hx
        rcases hx with rfl | rfl | rfl | rfl <;> (rw [tn _ (by omega) (by omega)]; omega)
theorem fixr_scalar (r : Int) : 0 ≤ fixr r ∧ fixr r ≤ 1114111 ∧ ¬ (55296 ≤ fixr r ∧ fixr r ≤ 57343) := by
  unfold fixr
  split <;> omega
theorem fixr_same {r : Int} (h0 : 0 ≤ r) (h1 : r ≤ 1114111) (hs : ¬ (55296 ≤ r ∧ r ≤ 57343)) : fixr r = r := by
  unfold fixr
  rw [if_pos (by omega)]
/-- Each code point, as it is told: an escape that is read, or itself. -/
theorem show_back (a t : List UInt8) (r : Int) (h0 : 0 ≤ r) (h1 : r ≤ 1114111) (hs : ¬ (55296 ≤ r ∧ r ≤ 57343)) :
    (byt (showM r) 0 = 92 ∧ 2 ≤ (showM r).length ∧ escM (a ++ showM r ++ t) a.length = (r, ((a.length + (showM r).length : Nat) : Int), 0)) ∨
    (byt (showM r) 0 ≠ 92 ∧ 1 ≤ (showM r).length ∧ showM r = Lib.encodeRune r ∧ printable r = true ∧ r ≠ 34 ∧ r ≠ 92 ∧ r ≠ 10 ∧ r ≠ 9) := by
  have hf := fixr_same h0 h1 hs
  unfold showM
  rw [hf]
  by_cases hl : letM r ≠ []
  · rw [if_pos hl]
    obtain ⟨h2, c, h3, _⟩ := esc_let a t r hl
    left
    exact ⟨by rw [h3]; rfl, by rw [h3]; exact Nat.le_refl _, h2⟩
  · rw [if_neg hl]
    have hl := Classical.not_not.1 hl
    have hne : r ≠ 34 ∧ r ≠ 92 ∧ r ≠ 10 ∧ r ≠ 9 := by
      refine ⟨?_, ?_, ?_, ?_⟩ <;> (rintro rfl; revert hl; decide)
    by_cases hp : printable r = true
    · right
      rw [if_pos hp]
      refine ⟨?_, encR_pos r, rfl, hp, hne⟩
      rcases encR_first h0 h1 hs with ⟨h2, h3⟩ | ⟨h2, h3⟩
      · rw [h3, byt_zero, tn _ h0 (by omega)]
        have := hne.2.1
        omega
      · have hpos := encR_pos r
        cases he : Lib.encodeRune r with
        | nil => rw [he] at hpos; simp at hpos
        | cons b m =>
          rw [he] at h3
          have := h3 b (by simp)
          rw [byt_zero]
          omega
    · left
      rw [if_neg hp]
      obtain ⟨n, rfl⟩ := Int.eq_ofNat_of_zero_le h0
      have hn : scalarN n := ⟨by omega, by omega⟩
      have := esc_coded a t n hn
      refine ⟨?_, ?_, this⟩
      · show byt (codedM n) 0 = 92
        unfold codedM
        split
        · rfl
        · split <;> rfl
      · show 2 ≤ (codedM n).length
        unfold codedM
        split
        · simp
        · split <;> simp
end U
end Go.Proofs.YtjfgcbikdibjeaaGreatDoor
