/- Plain laws on UTF-8: what the model's own decoding gives, as lists. No program in sight. -/
import Derived.Lib.DecodeN
import Derived.Lib.RuneCount
import Derived.Lib.RuneBytes
namespace Go.Proofs.YtjfgcbikdibjeaaGreatDoor
namespace U
open Go

/-- The byte at a place, as a number; 0 beyond the end. -/
def byt (l : List UInt8) (i : Nat) : Nat := (l.getD i 0).toNat
theorem byt_lt (l : List UInt8) (i : Nat) : byt l i < 256 := (l.getD i 0).toNat_lt
theorem byt_zero (b : UInt8) (t : List UInt8) : byt (b :: t) 0 = b.toNat := rfl
theorem byt_succ (b : UInt8) (t : List UInt8) (i : Nat) : byt (b :: t) (i + 1) = byt t i := rfl
theorem byt_drop (l : List UInt8) (i k : Nat) : byt (l.drop i) k = byt l (i + k) := by
  simp [byt, List.getD, List.getElem?_drop]
theorem byt_get (l : List UInt8) (k : Nat) (h : k < l.length) : (l[k]'h).toNat = byt l k := by
  simp [byt, List.getD, h]
theorem byt_mk (l : List UInt8) (k : Nat) (h : k < (⟨l.toArray⟩ : ByteArray).size) : ((⟨l.toArray⟩ : ByteArray)[k]'h).toNat = byt l k := byt_get l k h
theorem byt_ge (l : List UInt8) (i : Nat) (h : l.length ≤ i) : byt l i = 0 := by
  simp [byt, List.getD, h]
theorem byt_append_left (a b : List UInt8) (i : Nat) (h : i < a.length) : byt (a ++ b) i = byt a i := by
  simp [byt, List.getD, List.getElem?_append_left h]
theorem byt_append_right (a b : List UInt8) (i : Nat) (h : a.length ≤ i) : byt (a ++ b) i = byt b (i - a.length) := by
  simp [byt, List.getD, List.getElem?_append_right h]

/-- What stands at the head of a list of bytes: the code point and its width. -/
def dec (l : List UInt8) : Nat × Nat := Lib.decodeN l.length (byt l 0) (byt l 1) (byt l 2) (byt l 3)

theorem get_mk (l : List UInt8) (i : Nat) : (⟨l.toArray⟩ : ByteArray).get! i = l.getD i 0 := by
  show (l.toArray).get!Internal i = _
  by_cases h : i < l.length
  · simp [Array.get!Internal_eq_getElem!, List.getD, h]
  · simp [Array.get!Internal_eq_getElem!, List.getD, h]
    rfl

theorem size_mk (l : List UInt8) : (⟨l.toArray⟩ : ByteArray).size = l.length := rfl

theorem decode_mk (l : List UInt8) (i : Nat) : Utf8.decode ⟨l.toArray⟩ i = dec (l.drop i) := by
  rw [Lib.decode_at]
  unfold dec
  simp only [get_mk, size_mk, List.length_drop, byt_drop, Nat.add_zero]
  rfl

theorem dec_w_pos (l : List UInt8) : 1 ≤ (dec l).2 := by
  unfold dec Lib.decodeN
  repeat' split
  all_goals simp

theorem dec_w_le4 (l : List UInt8) : (dec l).2 ≤ 4 := by
  unfold dec Lib.decodeN
  repeat' split
  all_goals simp

theorem dec_w_le (l : List UInt8) (h : l ≠ []) : (dec l).2 ≤ l.length := by
  have hp : 1 ≤ l.length := by cases l <;> simp_all
  unfold dec Lib.decodeN
  repeat' split
  all_goals simp only []
  all_goals omega

theorem dec_r_le (l : List UInt8) : (dec l).1 ≤ 1114111 := by
  have h0 := byt_lt l 0
  have h1 := byt_lt l 1
  unfold dec Lib.decodeN
  repeat' split
  all_goals simp only []
  all_goals omega

/-- Whether nothing begins at the head of a list of bytes. -/
def bad (l : List UInt8) : Bool := (dec l).1 == 65533 && (dec l).2 == 1

/-- The code points of a list of bytes, from a place on: where each begins, which one it is, how wide it is. -/
def unitsF : Nat → Nat → List UInt8 → List (Nat × Nat × Nat)
  | 0, _, _ => []
  | _ + 1, _, [] => []
  | f + 1, pos, l => (pos, dec l) :: unitsF f (pos + (dec l).2) (l.drop (dec l).2)

def units (pos : Nat) (l : List UInt8) : List (Nat × Nat × Nat) := unitsF l.length pos l

theorem unitsF_more (f : Nat) : ∀ (g pos : Nat) (l : List UInt8), l.length ≤ f → l.length ≤ g → unitsF f pos l = unitsF g pos l := by
  induction f with
  | zero =>
    intro g pos l hf hg
    have : l = [] := by cases l <;> simp_all
    subst this
    cases g <;> rfl
  | succ f ih =>
    intro g pos l hf hg
    cases l with
    | nil => cases g <;> rfl
    | cons b t =>
      cases g with
      | zero => simp at hg
      | succ g =>
        have hp := dec_w_pos (b :: t)
        have hl : ((b :: t).drop (dec (b :: t)).2).length ≤ t.length := by rw [List.length_drop]; simp; omega
        simp at hf hg
        show _ :: _ = _ :: _
        rw [ih g _ _ (by omega) (by omega)]

theorem units_nil (pos : Nat) : units pos [] = [] := rfl

theorem units_cons (pos : Nat) (l : List UInt8) (h : l ≠ []) : units pos l = (pos, dec l) :: units (pos + (dec l).2) (l.drop (dec l).2) := by
  cases l with
  | nil => exact absurd rfl h
  | cons b t =>
    have hp := dec_w_pos (b :: t)
    have hl : ((b :: t).drop (dec (b :: t)).2).length ≤ t.length := by rw [List.length_drop]; simp; omega
    show _ :: _ = _ :: _
    rw [unitsF_more _ _ _ _ hl (Nat.le_refl _)]
    rfl

theorem unitsF_le : ∀ (f pos : Nat) (l : List UInt8), (unitsF f pos l).length ≤ f
  | 0, _, _ => by simp [unitsF]
  | f + 1, pos, [] => by simp [unitsF]
  | f + 1, pos, b :: t => by
    have := unitsF_le f (pos + (dec (b :: t)).2) ((b :: t).drop (dec (b :: t)).2)
    simp only [unitsF, List.length_cons]
    omega

/-- The place of what is no code point. -/
def placeOf (us : List (Nat × Nat × Nat)) : Int := match us.find? (fun u => u.2.1 == 65533 && u.2.2 == 1) with | some u => (u.1 : Int) | none => -1
def place (l : List UInt8) : Int := placeOf (units 0 l)
def runes (l : List UInt8) : List Int := (units 0 l).map fun u => (u.2.1 : Int)
def width (l : List UInt8) : Nat := (units 0 l).length

/-- The bytes of numbers. -/
def enc (xs : List Int) : List UInt8 := xs.flatMap Lib.encodeRune
theorem enc_snoc (xs : List Int) (x : Int) : enc (xs ++ [x]) = enc xs ++ Lib.encodeRune x := by simp [enc]
theorem encR_le (x : Int) : (Lib.encodeRune x).length ≤ 4 := by
  have := Lib.runeCells_le x
  rw [Lib.runeCells_length] at this
  exact this.2
theorem enc_le (xs : List Int) : (enc xs).length ≤ 4 * xs.length := by
  induction xs with
  | nil => simp [enc]
  | cons x xs ih =>
    have := encR_le x
    simp only [enc, List.flatMap_cons, List.length_append, List.length_cons] at *
    omega

theorem width_le (l : List UInt8) : width l ≤ l.length := unitsF_le _ _ _
theorem runes_length (l : List UInt8) : (runes l).length = width l := by simp [runes, width]

theorem placeOf_nil : placeOf [] = -1 := rfl
theorem placeOf_bad (u : Nat × Nat × Nat) (us : List (Nat × Nat × Nat)) (h : (u.2.1 == 65533 && u.2.2 == 1) = true) : placeOf (u :: us) = u.1 := by
  simp only [placeOf, List.find?_cons, h]
theorem placeOf_good (u : Nat × Nat × Nat) (us : List (Nat × Nat × Nat)) (h : (u.2.1 == 65533 && u.2.2 == 1) = false) : placeOf (u :: us) = placeOf us := by
  simp only [placeOf, List.find?_cons, h]

/-- An encoding that begins at a head has its width and its number; if no code point begins there: nothing. -/
def one (l : List UInt8) : Nat × Nat := if bad l then (0, 0) else dec l

theorem one_bad {l : List UInt8} (h : bad l = true) : one l = (0, 0) := by simp [one, h]
theorem one_good {l : List UInt8} (h : bad l = false) : one l = dec l := by simp [one, h]
theorem dec_bad {l : List UInt8} (h : bad l = true) : dec l = (65533, 1) := by
  simp only [bad, Bool.and_eq_true, beq_iff_eq] at h
  exact Prod.ext h.1 h.2
theorem bad_of {l : List UInt8} {r n : Nat} (h : dec l = (r, n)) : bad l = (r == 65533 && n == 1) := by simp [bad, h]

def oneN (n b0 b1 b2 b3 : Nat) : Nat × Nat :=
  if b0 < 128 then (b0, 1)
  else if b0 < 194 then (0, 0)
  else if b0 < 224 then if 2 ≤ n ∧ b1 / 64 = 2 then (b0 % 32 * 64 + b1 % 64, 2) else (0, 0)
  else if b0 < 240 then
    if 3 ≤ n ∧ b1 / 64 = 2 ∧ b2 / 64 = 2 ∧ 2048 ≤ b0 % 16 * 4096 + b1 % 64 * 64 + b2 % 64 ∧ (b0 % 16 * 4096 + b1 % 64 * 64 + b2 % 64 < 55296 ∨ 57344 ≤ b0 % 16 * 4096 + b1 % 64 * 64 + b2 % 64)
    then (b0 % 16 * 4096 + b1 % 64 * 64 + b2 % 64, 3) else (0, 0)
  else if b0 < 245 then
    if 4 ≤ n ∧ b1 / 64 = 2 ∧ b2 / 64 = 2 ∧ b3 / 64 = 2 ∧ 65536 ≤ b0 % 8 * 262144 + b1 % 64 * 4096 + b2 % 64 * 64 + b3 % 64 ∧ b0 % 8 * 262144 + b1 % 64 * 4096 + b2 % 64 * 64 + b3 % 64 ≤ 1114111
    then (b0 % 8 * 262144 + b1 % 64 * 4096 + b2 % 64 * 64 + b3 % 64, 4) else (0, 0)
  else (0, 0)

theorem pair_ext {a b c d : Nat} (h1 : a = c) (h2 : b = d) : (a, b) = (c, d) := by rw [h1, h2]

set_option maxRecDepth 100000 in
set_option maxHeartbeats 4000000 in
theorem oneN_of (n b0 b1 b2 b3 : Nat) (h0 : b0 < 256) (h1 : b1 < 256) (h2 : b2 < 256) (_h3 : b3 < 256) :
    (if (Lib.decodeN n b0 b1 b2 b3).1 = 65533 ∧ (Lib.decodeN n b0 b1 b2 b3).2 = 1 then (0, 0) else Lib.decodeN n b0 b1 b2 b3) = oneN n b0 b1 b2 b3 := by
  generalize hd : Lib.decodeN n b0 b1 b2 b3 = d
  unfold Lib.decodeN at hd
  unfold oneN
  repeat' split at hd
  all_goals subst hd
  all_goals repeat' split
  all_goals first | rfl | (exfalso; omega) | (exfalso; simp only [] at *; omega)

theorem one_eq (l : List UInt8) : one l = oneN l.length (byt l 0) (byt l 1) (byt l 2) (byt l 3) := by
  rw [← oneN_of _ _ _ _ _ (byt_lt l 0) (byt_lt l 1) (byt_lt l 2) (byt_lt l 3)]
  unfold one bad dec
  simp only [Bool.and_eq_true, beq_iff_eq]

end U
end Go.Proofs.YtjfgcbikdibjeaaGreatDoor
