import Derived.Lib.DecodeN
import Derived.Lib.RuneCount
import Derived.Lib.RuneBytes
import Derived.Lib.MapLaws
import Derived.Lib.Bytealg
import Derived.Lib.Strings
import Derived.Lib.LastIndexByte
import Derived.Lib.ReplaceLaws
import Derived.Lib.SplitLaws
import Derived.Lib.IndexMore
/- Plain laws on UTF-8: what the model's own decoding gives, as lists. No program in sight. -/
namespace Go.Proofs.YtjfgcbikdibjeaaGreatDoor
namespace U
open Go

/-- The byte at a place, as a number; 0 beyond the end. -/
def byt (l : List UInt8) (i : Nat) : Nat := (l.getD i 0).toNat
theorem byt_lt (l : List UInt8) (i : Nat) : byt l i < 256 := (l.getD i 0).toNat_lt
theorem byt_zero (b : UInt8) (t : List UInt8) : byt (b :: t) 0 = b.toNat := rfl
theorem byt_succ (b : UInt8) (t : List UInt8) (i : Nat) : byt (b :: t) (i + 1) = byt t i := rfl
theorem byt_drop (l : List UInt8) (i k : Nat) : byt (l.drop i) k = byt l (i + k) := by
  simp [byt, List.getD, List.getElem?_drop]
theorem byt_get (l : List UInt8) (k : Nat) (h : k < l.length) : (l[k]'h).toNat = byt l k := by
  simp [byt, List.getD, h]
theorem byt_mk (l : List UInt8) (k : Nat) (h : k < (⟨l.toArray⟩ : ByteArray).size) : ((⟨l.toArray⟩ : ByteArray)[k]'h).toNat = byt l k := byt_get l k h
theorem byt_ge (l : List UInt8) (i : Nat) (h : l.length ≤ i) : byt l i = 0 := by
  simp [byt, List.getD, h]
theorem byt_append_left (a b : List UInt8) (i : Nat) (h : i < a.length) : byt (a ++ b) i = byt a i := by
  simp [byt, List.getD, List.getElem?_append_left h]
theorem byt_append_right (a b : List UInt8) (i : Nat) (h : a.length ≤ i) : byt (a ++ b) i = byt b (i - a.length) := by
  simp [byt, List.getD, List.getElem?_append_right h]

/-- What stands at the head of a list of bytes: the code point and its width. -/
def dec (l : List UInt8) : Nat × Nat := Lib.decodeN l.length (byt l 0) (byt l 1) (byt l 2) (byt l 3)

theorem get_mk (l : List UInt8) (i : Nat) : (⟨l.toArray⟩ : ByteArray).get! i = l.getD i 0 := by
  show (l.toArray).get!Internal i = _
  by_cases h : i < l.length
  · simp [Array.get!Internal_eq_getElem!, List.getD, h]
  · simp [Array.get!Internal_eq_getElem!, List.getD, h]
    rfl

theorem size_mk (l : List UInt8) : (⟨l.toArray⟩ : ByteArray).size = l.length := rfl

theorem decode_mk (l : List UInt8) (i : Nat) : Utf8.decode ⟨l.toArray⟩ i = dec (l.drop i) := by
  rw [Lib.decode_at]
  unfold dec
  simp only [get_mk, size_mk, List.length_drop, byt_drop, Nat.add_zero]
  rfl

theorem dec_w_pos (l : List UInt8) : 1 ≤ (dec l).2 := by
  unfold dec Lib.decodeN
  repeat' split
  all_goals simp

theorem dec_w_le4 (l : List UInt8) : (dec l).2 ≤ 4 := by
  unfold dec Lib.decodeN
  repeat' split
  all_goals simp

theorem dec_w_le (l : List UInt8) (h : l ≠ []) : (dec l).2 ≤ l.length := by
  have hp : 1 ≤ l.length := by cases l <;> simp_all
  unfold dec Lib.decodeN
  repeat' split
  all_goals simp only []
  all_goals omega

theorem dec_r_le (l : List UInt8) : (dec l).1 ≤ 1114111 := by
  have h0 := byt_lt l 0
  have h1 := byt_lt l 1
  unfold dec Lib.decodeN
  repeat' split
  all_goals simp only []
  all_goals omega

/-- Whether nothing begins at the head of a list of bytes. -/
def bad (l : List UInt8) : Bool := (dec l).1 == 65533 && (dec l).2 == 1

/-- The code points of a list of bytes, from a place on: where each begins, which one it is, how wide it is. -/
def unitsF : Nat → Nat → List UInt8 → List (Nat × Nat × Nat)
  | 0, _, _ => []
  | _ + 1, _, [] => []
  | f + 1, pos, l => (pos, dec l) :: unitsF f (pos + (dec l).2) (l.drop (dec l).2)

def units (pos : Nat) (l : List UInt8) : List (Nat × Nat × Nat) := unitsF l.length pos l

theorem unitsF_more (f : Nat) : ∀ (g pos : Nat) (l : List UInt8), l.length ≤ f → l.length ≤ g → unitsF f pos l = unitsF g pos l := by
  induction f with
  | zero =>
    intro g pos l hf hg
    have : l = [] := by cases l <;> simp_all
    subst this
    cases g <;> rfl
  | succ f ih =>
    intro g pos l hf hg
    cases l with
    | nil => cases g <;> rfl
    | cons b t =>
      cases g with
      | zero => simp at hg
      | succ g =>
        have hp := dec_w_pos (b :: t)
        have hl : ((b :: t).drop (dec (b :: t)).2).length ≤ t.length := by rw [List.length_drop]; simp; omega
        simp at hf hg
        show _ :: _ = _ :: _
        rw [ih g _ _ (by omega) (by omega)]

theorem units_nil (pos : Nat) : units pos [] = [] := rfl

theorem units_cons (pos : Nat) (l : List UInt8) (h : l ≠ []) : units pos l = (pos, dec l) :: units (pos + (dec l).2) (l.drop (dec l).2) := by
  cases l with
  | nil => exact absurd rfl h
  | cons b t =>
    have hp := dec_w_pos (b :: t)
    have hl : ((b :: t).drop (dec (b :: t)).2).length ≤ t.length := by rw [List.length_drop]; simp; omega
    show _ :: _ = _ :: _
    rw [unitsF_more _ _ _ _ hl (Nat.le_refl _)]
    rfl

theorem unitsF_le : ∀ (f pos : Nat) (l : List UInt8), (unitsF f pos l).length ≤ f
  | 0, _, _ => by simp [unitsF]
  | f + 1, pos, [] => by simp [unitsF]
  | f + 1, pos, b :: t => by
    have := unitsF_le f (pos + (dec (b :: t)).2) ((b :: t).drop (dec (b :: t)).2)
    simp only [unitsF, List.length_cons]
    omega

/-- The place of what is no code point. -/
def placeOf (us : List (Nat × Nat × Nat)) : Int := match us.find? (fun u => u.2.1 == 65533 && u.2.2 == 1) with | some u => (u.1 : Int) | none => -1
def place (l : List UInt8) : Int := placeOf (units 0 l)
def runes (l : List UInt8) : List Int := (units 0 l).map fun u => (u.2.1 : Int)
def width (l : List UInt8) : Nat := (units 0 l).length

/-- The bytes of numbers. -/
def enc (xs : List Int) : List UInt8 := xs.flatMap Lib.encodeRune
theorem enc_snoc (xs : List Int) (x : Int) : enc (xs ++ [x]) = enc xs ++ Lib.encodeRune x := by simp [enc]
theorem encR_le (x : Int) : (Lib.encodeRune x).length ≤ 4 := by
  have := Lib.runeCells_le x
  rw [Lib.runeCells_length] at this
  exact this.2
theorem enc_le (xs : List Int) : (enc xs).length ≤ 4 * xs.length := by
  induction xs with
  | nil => simp [enc]
  | cons x xs ih =>
    have := encR_le x
    simp only [enc, List.flatMap_cons, List.length_append, List.length_cons] at *
    omega

theorem width_le (l : List UInt8) : width l ≤ l.length := unitsF_le _ _ _
theorem runes_length (l : List UInt8) : (runes l).length = width l := by simp [runes, width]

theorem placeOf_nil : placeOf [] = -1 := rfl
theorem placeOf_bad (u : Nat × Nat × Nat) (us : List (Nat × Nat × Nat)) (h : (u.2.1 == 65533 && u.2.2 == 1) = true) : placeOf (u :: us) = u.1 := by
  simp only [placeOf, List.find?_cons, h]
theorem placeOf_good (u : Nat × Nat × Nat) (us : List (Nat × Nat × Nat)) (h : (u.2.1 == 65533 && u.2.2 == 1) = false) : placeOf (u :: us) = placeOf us := by
  simp only [placeOf, List.find?_cons, h]

/-- An encoding that begins at a head has its width and its number; if no code point begins there: nothing. -/
def one (l : List UInt8) : Nat × Nat := if bad l then (0, 0) else dec l

theorem one_bad {l : List UInt8} (h : bad l = true) : one l = (0, 0) := by simp [one, h]
theorem one_good {l : List UInt8} (h : bad l = false) : one l = dec l := by simp [one, h]
theorem dec_bad {l : List UInt8} (h : bad l = true) : dec l = (65533, 1) := by
  simp only [bad, Bool.and_eq_true, beq_iff_eq] at h
  exact Prod.ext h.1 h.2
theorem bad_of {l : List UInt8} {r n : Nat} (h : dec l = (r, n)) : bad l = (r == 65533 && n == 1) := by simp [bad, h]

def oneN (n b0 b1 b2 b3 : Nat) : Nat × Nat :=
  if b0 < 128 then (b0, 1)
  else if b0 < 194 then (0, 0)
  else if b0 < 224 then if 2 ≤ n ∧ b1 / 64 = 2 then (b0 % 32 * 64 + b1 % 64, 2) else (0, 0)
  else if b0 < 240 then
    if 3 ≤ n ∧ b1 / 64 = 2 ∧ b2 / 64 = 2 ∧ 2048 ≤ b0 % 16 * 4096 + b1 % 64 * 64 + b2 % 64 ∧ (b0 % 16 * 4096 + b1 % 64 * 64 + b2 % 64 < 55296 ∨ 57344 ≤ b0 % 16 * 4096 + b1 % 64 * 64 + b2 % 64)
    then (b0 % 16 * 4096 + b1 % 64 * 64 + b2 % 64, 3) else (0, 0)
  else if b0 < 245 then
    if 4 ≤ n ∧ b1 / 64 = 2 ∧ b2 / 64 = 2 ∧ b3 / 64 = 2 ∧ 65536 ≤ b0 % 8 * 262144 + b1 % 64 * 4096 + b2 % 64 * 64 + b3 % 64 ∧ b0 % 8 * 262144 + b1 % 64 * 4096 + b2 % 64 * 64 + b3 % 64 ≤ 1114111
    then (b0 % 8 * 262144 + b1 % 64 * 4096 + b2 % 64 * 64 + b3 % 64, 4) else (0, 0)
  else (0, 0)

theorem pair_ext {a b c d : Nat} (h1 : a = c) (h2 : b = d) : (a, b) = (c, d) := by rw [h1, h2]

set_option maxRecDepth 100000 in
set_option maxHeartbeats 4000000 in
theorem oneN_of (n b0 b1 b2 b3 : Nat) (h0 : b0 < 256) (h1 : b1 < 256) (h2 : b2 < 256) (_h3 : b3 < 256) :
    (if (Lib.decodeN n b0 b1 b2 b3).1 = 65533 ∧ (Lib.decodeN n b0 b1 b2 b3).2 = 1 then (0, 0) else Lib.decodeN n b0 b1 b2 b3) = oneN n b0 b1 b2 b3 := by
  generalize hd : Lib.decodeN n b0 b1 b2 b3 = d
  unfold Lib.decodeN at hd
  unfold oneN
  repeat' split at hd
  all_goals subst hd
  all_goals repeat' split
  all_goals first | rfl | (exfalso; omega) | (exfalso; simp only [] at *; omega)

theorem one_eq (l : List UInt8) : one l = oneN l.length (byt l 0) (byt l 1) (byt l 2) (byt l 3) := by
  rw [← oneN_of _ _ _ _ _ (byt_lt l 0) (byt_lt l 1) (byt_lt l 2) (byt_lt l 3)]
  unfold one bad dec
  simp only [Bool.and_eq_true, beq_iff_eq]

end U
end Go.Proofs.YtjfgcbikdibjeaaGreatDoor

/- Plain laws on UTF-8: what is written is read; joining; cutting. No program in sight. -/
namespace Go.Proofs.YtjfgcbikdibjeaaGreatDoor
namespace U
open Go

/-- A number as a code point. -/
def fixr (r : Int) : Int := if (0 ≤ r ∧ r < 55296) ∨ (57343 < r ∧ r ≤ 1114111) then r else 65533

theorem byt_nil (i : Nat) : byt [] i = 0 := rfl
theorem tn (x : Int) (_h0 : 0 ≤ x) (h1 : x < 256) : (x.toNat.toUInt8).toNat = x.toNat := by
  simp; omega

theorem dec_one (l : List UInt8) (h : byt l 0 < 128) : dec l = (byt l 0, 1) := by
  unfold dec Lib.decodeN
  rw [if_pos h]
theorem dec_two (l : List UInt8) (hl : 2 ≤ l.length) (r : Nat) (h0 : 128 ≤ r) (h1 : r < 2048) (e0 : byt l 0 = 192 + r / 64) (e1 : byt l 1 = 128 + r % 64) : dec l = (r, 2) := by
  unfold dec Lib.decodeN
  rw [e0, e1, if_neg (by omega), if_pos (by omega), if_pos (by omega)]
  exact Prod.ext (by simp only []; omega) rfl
theorem dec_three (l : List UInt8) (hl : 3 ≤ l.length) (r : Nat) (h0 : 2048 ≤ r) (h1 : r < 65536) (h2 : r < 55296 ∨ 57343 < r) (e0 : byt l 0 = 224 + r / 4096) (e1 : byt l 1 = 128 + r / 64 % 64) (e2 : byt l 2 = 128 + r % 64) : dec l = (r, 3) := by
  unfold dec Lib.decodeN
  rw [e0, e1, e2, if_neg (by omega), if_neg (by omega), if_pos (by omega), if_pos (by omega)]
  exact Prod.ext (by simp only []; omega) rfl
theorem dec_four (l : List UInt8) (hl : 4 ≤ l.length) (r : Nat) (h0 : 65536 ≤ r) (h1 : r ≤ 1114111) (e0 : byt l 0 = 240 + r / 262144) (e1 : byt l 1 = 128 + r / 4096 % 64) (e2 : byt l 2 = 128 + r / 64 % 64) (e3 : byt l 3 = 128 + r % 64) : dec l = (r, 4) := by
  unfold dec Lib.decodeN
  rw [e0, e1, e2, e3, if_neg (by omega), if_neg (by omega), if_neg (by omega), if_pos (by omega), if_pos (by omega)]
  exact Prod.ext (by simp only []; omega) rfl

/-- What a number's bytes are read as, whatever stands behind. -/
theorem dec_enc (r : Int) (t : List UInt8) : dec (Lib.encodeRune r ++ t) = ((fixr r).toNat, (Lib.encodeRune r).length) := by
  by_cases hb : (0 ≤ r ∧ r < 55296) ∨ (57343 < r ∧ r ≤ 1114111)
  · obtain ⟨n, rfl⟩ := Int.eq_ofNat_of_zero_le (show 0 ≤ r by omega)
    have hf : (fixr n).toNat = n := by unfold fixr; rw [if_pos hb]; simp
    rw [hf]
    by_cases h1 : n ≤ 127
    · have he : Lib.encodeRune n = [(n : Int).toNat.toUInt8] := by unfold Lib.encodeRune; rw [Lib.encodeRuneZ_one (by omega) (by omega)]; rfl
      rw [he]
      have e0 : byt ([(n : Int).toNat.toUInt8] ++ t) 0 = n := by rw [List.cons_append, byt_zero, tn _ (by omega) (by omega)]; simp
      rw [dec_one _ (by rw [e0]; omega), e0]; rfl
    by_cases h2 : n ≤ 2047
    · have he : Lib.encodeRune n = [(192 + (n : Int) / 64).toNat.toUInt8, (128 + (n : Int) % 64).toNat.toUInt8] := by unfold Lib.encodeRune; rw [Lib.encodeRuneZ_two (by omega) (by omega)]; rfl
      rw [he]
      refine dec_two _ (by simp) n (by omega) (by omega) ?_ ?_
      · rw [List.cons_append, byt_zero, tn _ (by omega) (by omega)]; omega
      · rw [List.cons_append, byt_succ, List.cons_append, byt_zero, tn _ (by omega) (by omega)]; omega
    by_cases h3 : n ≤ 65535
    · have he : Lib.encodeRune n = [(224 + (n : Int) / 4096).toNat.toUInt8, (128 + (n : Int) / 64 % 64).toNat.toUInt8, (128 + (n : Int) % 64).toNat.toUInt8] := by unfold Lib.encodeRune; rw [Lib.encodeRuneZ_three (by omega)]; rfl
      rw [he]
      refine dec_three _ (by simp) n (by omega) (by omega) (by omega) ?_ ?_ ?_
      · rw [List.cons_append, byt_zero, tn _ (by omega) (by omega)]; omega
      · rw [List.cons_append, byt_succ, List.cons_append, byt_zero, tn _ (by omega) (by omega)]; omega
      · rw [List.cons_append, byt_succ, List.cons_append, byt_succ, List.cons_append, byt_zero, tn _ (by omega) (by omega)]; omega
    · have he : Lib.encodeRune n = [(240 + (n : Int) / 262144).toNat.toUInt8, (128 + (n : Int) / 4096 % 64).toNat.toUInt8, (128 + (n : Int) / 64 % 64).toNat.toUInt8, (128 + (n : Int) % 64).toNat.toUInt8] := by unfold Lib.encodeRune; rw [Lib.encodeRuneZ_four (by omega) (by omega)]; rfl
      rw [he]
      refine dec_four _ (by simp) n (by omega) (by omega) ?_ ?_ ?_ ?_
      · rw [List.cons_append, byt_zero, tn _ (by omega) (by omega)]; omega
      · rw [List.cons_append, byt_succ, List.cons_append, byt_zero, tn _ (by omega) (by omega)]; omega
      · rw [List.cons_append, byt_succ, List.cons_append, byt_succ, List.cons_append, byt_zero, tn _ (by omega) (by omega)]; omega
      · rw [List.cons_append, byt_succ, List.cons_append, byt_succ, List.cons_append, byt_succ, List.cons_append, byt_zero, tn _ (by omega) (by omega)]; omega
  · have he : Lib.encodeRune r = [239, 191, 189] := by unfold Lib.encodeRune; rw [Lib.encodeRuneZ_bad (by omega)]; rfl
    have hf : fixr r = 65533 := by unfold fixr; rw [if_neg hb]
    rw [he, hf]
    exact dec_three _ (by simp) 65533 (by omega) (by omega) (by omega) rfl rfl rfl

theorem encR_pos (x : Int) : 1 ≤ (Lib.encodeRune x).length := by
  have := Lib.runeCells_le x
  rw [Lib.runeCells_length] at this
  exact this.1
theorem encR_ne (x : Int) (t : List UInt8) : Lib.encodeRune x ++ t ≠ [] := by
  have := encR_pos x
  intro h
  rw [List.append_eq_nil_iff] at h
  rw [h.1] at this
  simp at this
theorem fixr_ge (r : Int) : 0 ≤ fixr r := by unfold fixr; split <;> omega

theorem units_enc (r : Int) (t : List UInt8) (pos : Nat) : units pos (Lib.encodeRune r ++ t) = (pos, (fixr r).toNat, (Lib.encodeRune r).length) :: units (pos + (Lib.encodeRune r).length) t := by
  rw [units_cons _ _ (encR_ne r t), dec_enc]
  simp

/-- It is not what no code point is read as. -/
theorem fixr_ok (r : Int) : ((fixr r).toNat == 65533 && (Lib.encodeRune r).length == 1) = false := by
  rw [Bool.and_eq_false_iff]
  by_cases h : (fixr r).toNat = 65533
  · right
    have hr : r = 65533 ∨ ¬ ((0 ≤ r ∧ r < 55296) ∨ (57343 < r ∧ r ≤ 1114111)) := by
      unfold fixr at h
      split at h
      · left; omega
      · right; assumption
    rcases hr with rfl | hb
    · decide
    · have he : Lib.encodeRune r = [239, 191, 189] := by unfold Lib.encodeRune; rw [Lib.encodeRuneZ_bad (by omega)]; rfl
      rw [he]; rfl
  · left; simpa using h

theorem enc_cons (x : Int) (xs : List Int) : enc (x :: xs) = Lib.encodeRune x ++ enc xs := by simp [enc]
theorem enc_append (xs ys : List Int) : enc (xs ++ ys) = enc xs ++ enc ys := by simp [enc]

theorem place_enc_at (xs : List Int) : ∀ pos, placeOf (units pos (enc xs)) = -1 := by
  induction xs with
  | nil => intro pos; rfl
  | cons x xs ih =>
    intro pos
    rw [enc_cons, units_enc, placeOf_good _ _ (fixr_ok x), ih]
theorem place_enc (xs : List Int) : place (enc xs) = -1 := place_enc_at xs 0
theorem units_enc_runes (xs : List Int) : ∀ pos, (units pos (enc xs)).map (fun u => (u.2.1 : Int)) = xs.map fixr := by
  induction xs with
  | nil => intro pos; rfl
  | cons x xs ih =>
    intro pos
    rw [enc_cons, units_enc, List.map_cons, List.map_cons, ih]
    have := fixr_ge x
    simp only [Int.toNat_of_nonneg this]
theorem runes_enc (xs : List Int) : runes (enc xs) = xs.map fixr := units_enc_runes xs 0
theorem width_enc (xs : List Int) : width (enc xs) = xs.length := by
  rw [← runes_length, runes_enc, List.length_map]

/-! ### What is read is written as it was, where it is a code point. -/
theorem decodeL_eq (l : List UInt8) : Lib.decodeL l = dec l := by
  unfold Lib.decodeL
  rw [decode_mk]
  rfl
theorem encR_dec (l : List UInt8) (hne : l ≠ []) (h : bad l = false) : Lib.encodeRune ((dec l).1 : Int) = l.take (dec l).2 := by
  have := Lib.encode_decode l hne (by
    rw [decodeL_eq]
    intro hh
    simp [bad, hh.1, hh.2] at h)
  rwa [decodeL_eq] at this

theorem dec_valid (l : List UInt8) : (dec l).1 < 55296 ∨ (57343 < (dec l).1 ∧ (dec l).1 ≤ 1114111) := by
  have h0 := byt_lt l 0
  have h1 := byt_lt l 1
  unfold dec Lib.decodeN
  repeat' split
  all_goals simp only []
  all_goals omega
theorem fixr_dec (l : List UInt8) : fixr ((dec l).1 : Int) = (dec l).1 := by
  have := dec_valid l
  unfold fixr
  rw [if_pos (by omega)]

theorem units_whole (f : Nat) : ∀ (l : List UInt8) (pos : Nat), l.length ≤ f → placeOf (units pos l) = -1 → enc ((units pos l).map fun u => (u.2.1 : Int)) = l := by
  induction f with
  | zero =>
    intro l pos hf _
    have : l = [] := by cases l <;> simp_all
    subst this
    rfl
  | succ f ih =>
    intro l pos hf hp
    by_cases hne : l = []
    · subst hne; rfl
    have hw1 := dec_w_pos l
    have hw2 := dec_w_le l hne
    rw [units_cons pos l hne] at hp ⊢
    cases hb : bad l with
    | true =>
      rw [placeOf_bad _ _ (by simpa [bad] using hb)] at hp
      simp only [] at hp
      omega
    | false =>
      rw [placeOf_good _ _ (by simpa [bad] using hb)] at hp
      rw [List.map_cons, enc_cons, ih _ _ (by rw [List.length_drop]; omega) hp, encR_dec l hne hb, List.take_append_drop]
theorem enc_runes {l : List UInt8} (h : place l = -1) : enc (runes l) = l := units_whole l.length l 0 (Nat.le_refl _) h

set_option maxRecDepth 100000 in
theorem runes_fix (l : List UInt8) : (runes l).map fixr = runes l := by
  unfold runes
  rw [List.map_map]
  apply List.map_congr_left
  intro u hu
  have : ∀ (f pos : Nat) (l : List UInt8), ∀ u ∈ unitsF f pos l, ∃ m, u.2 = dec m := by
    intro f
    induction f with
    | zero => intro pos l u hu; simp [unitsF] at hu
    | succ f ih =>
      intro pos l u hu
      cases l with
      | nil => simp [unitsF] at hu
      | cons b t =>
        simp only [unitsF, List.mem_cons] at hu
        rcases hu with rfl | hu
        · exact ⟨_, rfl⟩
        · exact ih _ _ u hu
  obtain ⟨m, hm⟩ := this _ _ _ u hu
  have h := fixr_dec m
  rw [← hm] at h
  simp only [Function.comp]
  exact h

theorem place_enc_runes (l : List UInt8) : (enc (runes l) = l) ↔ place l = -1 := by
  constructor
  · intro h
    rw [← h]
    exact place_enc _
  · exact enc_runes
theorem width_enc_runes (l : List UInt8) : width (enc (runes l)) = width l := by rw [width_enc, runes_length]

/-! ### Two texts, of which the first one is whole. -/
theorem dec_append (m b : List UInt8) (hne : m ≠ []) (h : bad m = false) : dec (m ++ b) = dec m := by
  have h2 := encR_dec m hne h
  have h3 := fixr_dec m
  have hw := dec_w_le m hne
  have e1 : m = Lib.encodeRune ((dec m).1 : Int) ++ m.drop (dec m).2 := by rw [h2, List.take_append_drop]
  have hlen : (Lib.encodeRune ((dec m).1 : Int)).length = (dec m).2 := by rw [h2, List.length_take]; omega
  have e2 : m ++ b = Lib.encodeRune ((dec m).1 : Int) ++ (m.drop (dec m).2 ++ b) := by rw [h2, ← List.append_assoc, List.take_append_drop]
  rw [e2, dec_enc, h3, hlen]
  simp

theorem units_append (f : Nat) : ∀ (a : List UInt8) (pos : Nat) (b : List UInt8), a.length ≤ f → placeOf (units pos a) = -1 → units pos (a ++ b) = units pos a ++ units (pos + a.length) b := by
  induction f with
  | zero =>
    intro a pos b hf _
    have : a = [] := by cases a <;> simp_all
    subst this
    simp [units_nil]
  | succ f ih =>
    intro a pos b hf hp
    by_cases hne : a = []
    · subst hne; simp [units_nil]
    have hw1 := dec_w_pos a
    have hw2 := dec_w_le a hne
    rw [units_cons pos a hne] at hp
    rw [units_cons pos a hne, units_cons pos (a ++ b) (by simp [hne])]
    cases hb : bad a with
    | true =>
      rw [placeOf_bad _ _ (by simpa [bad] using hb)] at hp
      simp only [] at hp
      omega
    | false =>
      rw [placeOf_good _ _ (by simpa [bad] using hb)] at hp
      rw [dec_append a b hne hb, List.drop_append_of_le_length hw2, ih _ _ b (by rw [List.length_drop]; omega) hp, List.length_drop, List.cons_append]
      congr 3
      omega
theorem placeOf_append (us vs : List (Nat × Nat × Nat)) (h : placeOf us = -1) : placeOf (us ++ vs) = placeOf vs := by
  induction us with
  | nil => rfl
  | cons u us ih =>
    cases hb : (u.2.1 == 65533 && u.2.2 == 1) with
    | true => rw [placeOf_bad _ _ hb] at h; omega
    | false =>
      rw [placeOf_good _ _ hb] at h
      rw [List.cons_append, placeOf_good _ _ hb, ih h]
theorem unitsF_shift (f : Nat) : ∀ (l : List UInt8) (pos : Nat), unitsF f pos l = (unitsF f 0 l).map fun u => (pos + u.1, u.2) := by
  induction f with
  | zero => intro l pos; rfl
  | succ f ih =>
    intro l pos
    cases l with
    | nil => rfl
    | cons b t =>
      simp only [unitsF, List.map_cons, Nat.zero_add, Nat.add_zero]
      rw [ih _ (pos + _), ih _ (dec (b :: t)).2, List.map_map]
      congr 1
      apply List.map_congr_left
      intro u _
      simp only [Function.comp]
      rw [Nat.add_assoc]
theorem units_shift (l : List UInt8) (pos : Nat) : units pos l = (units 0 l).map fun u => (pos + u.1, u.2) := unitsF_shift _ _ _
theorem placeOf_shift (us : List (Nat × Nat × Nat)) (k : Nat) : placeOf (us.map fun u => (k + u.1, u.2)) = if 0 ≤ placeOf us then placeOf us + k else -1 := by
  induction us with
  | nil => rfl
  | cons u us ih =>
    cases hb : (u.2.1 == 65533 && u.2.2 == 1) with
    | true =>
      rw [List.map_cons, placeOf_bad u _ hb, placeOf_bad (k + u.1, u.2) _ hb, if_pos (by omega)]
      simp only []
      omega
    | false => rw [List.map_cons, placeOf_good u _ hb, placeOf_good (k + u.1, u.2) _ hb, ih]
theorem place_ge (l : List UInt8) : -1 ≤ place l := by
  unfold place placeOf
  split <;> omega
theorem unitsF_at (f : Nat) : ∀ (l : List UInt8) (pos : Nat), ∀ u ∈ unitsF f pos l, u.1 < pos + l.length := by
  induction f with
  | zero => intro l pos u hu; simp [unitsF] at hu
  | succ f ih =>
    intro l pos u hu
    cases l with
    | nil => simp [unitsF] at hu
    | cons b t =>
      have hw := dec_w_le (b :: t) (by simp)
      simp only [unitsF, List.mem_cons] at hu
      rcases hu with rfl | hu
      · simp
      · have := ih _ _ u hu
        rw [List.length_drop] at this
        omega
theorem place_le (l : List UInt8) : place l ≤ l.length := by
  unfold place placeOf
  split
  · rename_i u hu
    have := unitsF_at l.length l 0 u (List.mem_of_find?_eq_some hu)
    omega
  · omega
theorem runes_append {a : List UInt8} (b : List UInt8) (h : place a = -1) : runes (a ++ b) = runes a ++ runes b := by
  unfold runes
  rw [units_append a.length a 0 b (Nat.le_refl _) h, List.map_append, units_shift b, List.map_map]
  rfl
theorem width_append {a : List UInt8} (b : List UInt8) (h : place a = -1) : width (a ++ b) = width a + width b := by
  rw [← runes_length, runes_append b h, List.length_append, runes_length, runes_length]
theorem place_append {a : List UInt8} (b : List UInt8) (h : place a = -1) : place (a ++ b) = if 0 ≤ place b then place b + a.length else place b := by
  have hg := place_ge b
  unfold place
  rw [units_append a.length a 0 b (Nat.le_refl _) h, placeOf_append _ _ h, units_shift b, placeOf_shift]
  show (if 0 ≤ place b then _ else _) = if 0 ≤ place b then _ else _
  split
  · show place b + _ = place b + _
    omega
  · show _ = place b
    omega

/-! ### A code point's bytes, cut. -/
theorem dec_lone (l : List UInt8) (h0 : 128 ≤ byt l 0) (h1 : byt l 0 < 194 ∨ 245 ≤ byt l 0) : dec l = (65533, 1) := by
  have hb : bad l = true := by
    cases hb : bad l with
    | true => rfl
    | false =>
      exfalso
      have h2 := one_good hb
      have h3 := one_eq l
      rw [h2] at h3
      have h4 := dec_w_pos l
      unfold oneN at h3
      rw [if_neg (by omega)] at h3
      rcases h1 with h1 | h1
      · rw [if_pos h1] at h3
        rw [h3] at h4
        simp at h4
      · rw [if_neg (by omega), if_neg (by omega), if_neg (by omega), if_neg (by omega)] at h3
        rw [h3] at h4
        simp at h4
  exact dec_bad hb
/-- Bytes of which none begins a code point. -/
theorem units_lone (f : Nat) : ∀ (l : List UInt8) (pos : Nat), l.length ≤ f → (∀ i, i < l.length → 128 ≤ byt l i ∧ (byt l i < 194 ∨ 245 ≤ byt l i)) → (units pos l).length = l.length := by
  induction f with
  | zero =>
    intro l pos hf _
    have : l = [] := by cases l <;> simp_all
    subst this
    rfl
  | succ f ih =>
    intro l pos hf h
    by_cases hne : l = []
    · subst hne; rfl
    have hp : 0 < l.length := List.length_pos_iff.2 hne
    have h0 := h 0 hp
    rw [units_cons pos l hne, dec_lone l h0.1 h0.2, List.length_cons, ih _ _ (by rw [List.length_drop]; simp only []; omega) ?_, List.length_drop]
    · simp only []; omega
    · intro i hi
      rw [byt_drop]
      rw [List.length_drop] at hi
      exact h _ (by simp only [] at hi ⊢; omega)

end U
end Go.Proofs.YtjfgcbikdibjeaaGreatDoor

/- What bytes are (chapter 4). No program in sight. -/
namespace Go.Proofs.YtjfgcbikdibjeaaGreatDoor
namespace U
open Go

def whN (b : Nat) : Bool := decide (b = 32 ∨ b = 9)
def flowN (b : Nat) : Bool := decide (b = 44 ∨ b = 91 ∨ b = 93 ∨ b = 123 ∨ b = 125)
def wordN (b : Nat) : Bool := decide ((97 ≤ b ∧ b ≤ 122) ∨ (65 ≤ b ∧ b ≤ 90) ∨ (48 ≤ b ∧ b ≤ 57) ∨ b = 45)
def uriN (b : Nat) : Bool := decide ((b = 35 ∨ b = 59 ∨ b = 47 ∨ b = 63 ∨ b = 58 ∨ b = 64 ∨ b = 38 ∨ b = 61 ∨ b = 43 ∨ b = 36 ∨ b = 95 ∨ b = 46 ∨ b = 33 ∨ b = 126 ∨ b = 42 ∨ b = 39 ∨ b = 40 ∨ b = 41 ∨ b = 37 ∨ b = 44 ∨ b = 91 ∨ b = 93) ∨ (97 ≤ b ∧ b ≤ 122) ∨ (65 ≤ b ∧ b ≤ 90) ∨ (48 ≤ b ∧ b ≤ 57) ∨ b = 45)
def hexN (b : Nat) : Bool := decide ((48 ≤ b ∧ b ≤ 57) ∨ (97 ≤ b ∧ b ≤ 102) ∨ (65 ≤ b ∧ b ≤ 70))
def wh (b : UInt8) : Bool := whN b.toNat
/-- A text's words: what stands so far, and the rest. -/
def wordsF (cur : List UInt8) : List UInt8 → List (List UInt8)
  | [] => if cur.isEmpty then [] else [cur]
  | b :: t => if wh b then (if cur.isEmpty then wordsF [] t else cur :: wordsF [] t) else wordsF (cur ++ [b]) t
def wordsM (l : List UInt8) : List (List UInt8) := wordsF [] l
theorem wordsF_no (u : List UInt8) (hu : ∀ x ∈ u, wh x = false) : ∀ (cur t : List UInt8), wordsF cur (u ++ t) = wordsF (cur ++ u) t := by
  induction u with
  | nil => intro cur t; simp
  | cons b u ih =>
    intro cur t
    rw [List.cons_append, wordsF, if_neg (by rw [hu b (by simp)]; decide), ih (fun x hx => hu x (by simp [hx])), List.append_assoc]
    rfl
theorem wordsF_yes (cur : List UInt8) (b : UInt8) (t : List UInt8) (h : wh b = true) : wordsF cur (b :: t) = (if cur.isEmpty then [] else [cur]) ++ wordsF [] t := by
  rw [wordsF, if_pos h]
  cases cur <;> rfl
/-- Words are no longer than what they are of. -/
theorem wordsF_len : ∀ (l cur : List UInt8), (wordsF cur l).length ≤ l.length + 1 ∧ ∀ x ∈ wordsF cur l, x.length ≤ cur.length + l.length := by
  intro l
  induction l with
  | nil => intro cur; rw [wordsF]; split <;> simp
  | cons b t ih =>
    intro cur
    rw [wordsF]
    split
    · obtain ⟨h1, h2⟩ := ih []
      split
      · refine ⟨by simp; omega, fun x hx => ?_⟩
        have := h2 x hx
        simp at this ⊢; omega
      · refine ⟨by simp; omega, fun x hx => ?_⟩
        rw [List.mem_cons] at hx
        rcases hx with rfl | hx
        · simp
        · have := h2 x hx
          simp at this ⊢; omega
    · obtain ⟨h1, h2⟩ := ih (cur ++ [b])
      refine ⟨by simp; omega, fun x hx => ?_⟩
      have := h2 x hx
      simp at this ⊢; omega
/-- A unit tells a byte of ASCII just where one stands. -/
theorem ascii_byte (m : List UInt8) (c : Nat) (hc : c < 128) : (dec m).1 = c ∧ m ≠ [] ↔ byt m 0 = c ∧ m ≠ [] := by
  constructor
  · rintro ⟨h, hne⟩
    refine ⟨?_, hne⟩
    cases hbad : bad m with
    | true =>
      rw [dec_bad hbad] at h
      simp only [] at h
      omega
    | false =>
      have he := encR_dec m hne hbad
      rw [h] at he
      have hw := dec_w_pos m
      have h1 : Lib.encodeRune (c : Int) = [c.toUInt8] := by
        unfold Lib.encodeRune
        rw [Lib.encodeRuneZ_one (by omega) (by omega)]
        simp
      have h2 : byt (m.take (dec m).2) 0 = byt m 0 := by
        simp only [byt]
        cases m with
        | nil => exact absurd rfl hne
        | cons a t =>
          obtain ⟨n, hn⟩ : ∃ n, (dec (a :: t)).2 = n + 1 := ⟨(dec (a :: t)).2 - 1, by omega⟩
          rw [hn]; rfl
      rw [← h2, ← he, h1]
      simp [byt]
      omega
  · rintro ⟨h, hne⟩
    refine ⟨?_, hne⟩
    rw [dec_one m (by omega), h]
end U
end Go.Proofs.YtjfgcbikdibjeaaGreatDoor

/- Plain laws: a code point's bytes, cut. -/
namespace Go.Proofs.YtjfgcbikdibjeaaGreatDoor
namespace U
open Go

/-- A text begins with a head of so many bytes. -/
def headOf (L b : Nat) : Prop := (L = 2 ∧ 194 ≤ b ∧ b < 224) ∨ (L = 3 ∧ 224 ≤ b ∧ b < 240) ∨ (L = 4 ∧ 240 ≤ b ∧ b < 245)

theorem enc_head (r : Nat) (h0 : 128 ≤ r) (h1 : r < 55296 ∨ (57343 < r ∧ r ≤ 1114111)) :
    headOf (Lib.encodeRune r).length (byt (Lib.encodeRune r) 0) ∧ ∀ i, 1 ≤ i → i < (Lib.encodeRune r).length → 128 ≤ byt (Lib.encodeRune r) i ∧ byt (Lib.encodeRune r) i < 192 := by
  by_cases h2 : r ≤ 2047
  · have he : Lib.encodeRune r = [(192 + (r : Int) / 64).toNat.toUInt8, (128 + (r : Int) % 64).toNat.toUInt8] := by unfold Lib.encodeRune; rw [Lib.encodeRuneZ_two (by omega) (by omega)]; rfl
    rw [he]
    refine ⟨Or.inl ⟨rfl, ?_⟩, fun i hi1 hi2 => ?_⟩
    · rw [byt_zero, tn _ (by omega) (by omega)]; omega
    · simp only [List.length_cons, List.length_nil] at hi2
      obtain rfl : i = 1 := by omega
      rw [byt_succ, byt_zero, tn _ (by omega) (by omega)]; omega
  by_cases h3 : r ≤ 65535
  · have he : Lib.encodeRune r = [(224 + (r : Int) / 4096).toNat.toUInt8, (128 + (r : Int) / 64 % 64).toNat.toUInt8, (128 + (r : Int) % 64).toNat.toUInt8] := by unfold Lib.encodeRune; rw [Lib.encodeRuneZ_three (by omega)]; rfl
    rw [he]
    refine ⟨Or.inr (Or.inl ⟨rfl, ?_⟩), fun i hi1 hi2 => ?_⟩
    · rw [byt_zero, tn _ (by omega) (by omega)]; omega
    · simp only [List.length_cons, List.length_nil] at hi2
      rcases (show i = 1 ∨ i = 2 by omega) with rfl | rfl
      · rw [byt_succ, byt_zero, tn _ (by omega) (by omega)]; omega
      · rw [byt_succ, byt_succ, byt_zero, tn _ (by omega) (by omega)]; omega
  · have he : Lib.encodeRune r = [(240 + (r : Int) / 262144).toNat.toUInt8, (128 + (r : Int) / 4096 % 64).toNat.toUInt8, (128 + (r : Int) / 64 % 64).toNat.toUInt8, (128 + (r : Int) % 64).toNat.toUInt8] := by unfold Lib.encodeRune; rw [Lib.encodeRuneZ_four (by omega) (by omega)]; rfl
    rw [he]
    refine ⟨Or.inr (Or.inr ⟨rfl, ?_⟩), fun i hi1 hi2 => ?_⟩
    · rw [byt_zero, tn _ (by omega) (by omega)]; omega
    · simp only [List.length_cons, List.length_nil] at hi2
      rcases (show i = 1 ∨ i = 2 ∨ i = 3 by omega) with rfl | rfl | rfl
      · rw [byt_succ, byt_zero, tn _ (by omega) (by omega)]; omega
      · rw [byt_succ, byt_succ, byt_zero, tn _ (by omega) (by omega)]; omega
      · rw [byt_succ, byt_succ, byt_succ, byt_zero, tn _ (by omega) (by omega)]; omega

/-- A head of L bytes, of which one lacks or is none of a code point's. -/
theorem bad_of_cut {m : List UInt8} {L : Nat} (h : headOf L (byt m 0)) (hc : m.length < L ∨ ∃ k, 1 ≤ k ∧ k < L ∧ byt m k = 255) : bad m = true := by
  cases hb : bad m with
  | true => rfl
  | false =>
    exfalso
    have h2 := one_good hb
    have h3 := one_eq m
    rw [h2] at h3
    have h4 := dec_w_pos m
    unfold oneN at h3
    unfold headOf at h
    have hx : ∀ {a : Nat × Nat}, dec m = a → 1 ≤ a.2 := by rintro a rfl; exact h4
    have key : m.length < L ∨ byt m 1 = 255 ∧ 1 < L ∨ byt m 2 = 255 ∧ 2 < L ∨ byt m 3 = 255 ∧ 3 < L := by
      rcases hc with hc | ⟨k, k1, k2, k3⟩
      · exact Or.inl hc
      · rcases (show k = 1 ∨ k = 2 ∨ k = 3 by omega) with rfl | rfl | rfl
        · exact Or.inr (Or.inl ⟨k3, k2⟩)
        · exact Or.inr (Or.inr (Or.inl ⟨k3, k2⟩))
        · exact Or.inr (Or.inr (Or.inr ⟨k3, k2⟩))
    have h5 := hx h3
    rcases h with ⟨rfl, ha, hb'⟩ | ⟨rfl, ha, hb'⟩ | ⟨rfl, ha, hb'⟩
    · rw [if_neg (by omega), if_neg (by omega), if_pos (by omega), if_neg (by omega)] at h5
      exact absurd h5 (by decide)
    · rw [if_neg (by omega), if_neg (by omega), if_neg (by omega), if_pos (by omega), if_neg (by omega)] at h5
      exact absurd h5 (by decide)
    · rw [if_neg (by omega), if_neg (by omega), if_neg (by omega), if_neg (by omega), if_pos (by omega), if_neg (by omega)] at h5
      exact absurd h5 (by decide)

/-- Its head is no code point's, the others begin none. -/
theorem cut_all {m : List UInt8} (hne : m ≠ []) (hb : bad m = true) (hr : ∀ i, 1 ≤ i → i < m.length → 128 ≤ byt m i ∧ (byt m i < 194 ∨ 245 ≤ byt m i)) : place m = 0 ∧ width m = m.length := by
  have hp : 0 < m.length := List.length_pos_iff.2 hne
  constructor
  · unfold place
    rw [units_cons 0 m hne, placeOf_bad _ _ (by simpa [bad] using hb)]
    rfl
  · unfold width
    rw [units_cons 0 m hne, dec_bad hb, List.length_cons, units_lone m.length _ _ (by rw [List.length_drop]; simp only []; omega) ?_, List.length_drop]
    · simp only []; omega
    · intro i hi
      rw [byt_drop]
      rw [List.length_drop] at hi
      exact hr _ (by simp only []; omega) (by simp only [] at hi ⊢; omega)

theorem byt_take (l : List UInt8) (k i : Nat) (h : i < k) : byt (l.take k) i = byt l i := by
  unfold byt
  rw [List.getD_eq_getElem?_getD, List.getD_eq_getElem?_getD, List.getElem?_take_of_lt h]

theorem cut_front {s : List UInt8} (h : headOf s.length (byt s 0)) (hr : ∀ i, 1 ≤ i → i < s.length → 128 ≤ byt s i ∧ byt s i < 192) {k : Nat} (k1 : 1 ≤ k) (k2 : k < s.length) :
    place (s.take k) = 0 ∧ width (s.take k) = k := by
  have hl : (s.take k).length = k := by rw [List.length_take]; omega
  have := cut_all (m := s.take k) (by intro hh; rw [hh] at hl; simp at hl; omega) (bad_of_cut (L := s.length) (by rw [byt_take _ _ _ (by omega)]; exact h) (Or.inl (by omega))) (fun i h1 h2 => by
    rw [byt_take _ _ _ (by omega)]
    have := hr i h1 (by omega)
    omega)
  rwa [hl] at this

theorem cut_turned {s : List UInt8} (h : headOf s.length (byt s 0)) (hr : ∀ i, 1 ≤ i → i < s.length → 128 ≤ byt s i ∧ byt s i < 192) {k : Nat} (k1 : 1 ≤ k) (k2 : k < s.length) :
    place (s.take k ++ [255] ++ s.drop (k + 1)) = 0 ∧ width (s.take k ++ [255] ++ s.drop (k + 1)) = s.length := by
  have hl : (s.take k).length = k := by rw [List.length_take]; omega
  have hlen : (s.take k ++ [255] ++ s.drop (k + 1)).length = s.length := by simp; omega
  have hlow : ∀ i, i < k → byt (s.take k ++ [255] ++ s.drop (k + 1)) i = byt s i := by
    intro i hi
    rw [List.append_assoc, byt_append_left _ _ _ (by omega), byt_take _ _ _ hi]
  have hat : byt (s.take k ++ [255] ++ s.drop (k + 1)) k = 255 := by
    rw [List.append_assoc, byt_append_right _ _ _ (by omega), hl, Nat.sub_self]; rfl
  have hhigh : ∀ i, k < i → byt (s.take k ++ [255] ++ s.drop (k + 1)) i = byt s i := by
    intro i hi
    rw [byt_append_right _ _ _ (by simp [hl]; omega), byt_drop]
    congr 1
    simp [hl]; omega
  have := cut_all (m := s.take k ++ [255] ++ s.drop (k + 1)) (by intro hh; rw [hh] at hlen; simp at hlen; omega)
    (bad_of_cut (L := s.length) (by rw [hlow 0 (by omega)]; exact h) (Or.inr ⟨k, k1, k2, hat⟩)) (fun i h1 h2 => by
      rcases Nat.lt_trichotomy i k with hi | hi | hi
      · rw [hlow i hi]; have := hr i h1 (by omega); omega
      · subst hi; rw [hat]; omega
      · rw [hhigh i hi]; have := hr i h1 (by omega); omega)
  rwa [hlen] at this

theorem cut_back {s : List UInt8} (hr : ∀ i, 1 ≤ i → i < s.length → 128 ≤ byt s i ∧ byt s i < 192) {k : Nat} (k1 : 1 ≤ k) (k2 : k < s.length) :
    place (97 :: s.drop k) = 1 := by
  have hne : s.drop k ≠ [] := by intro hh; have := congrArg List.length hh; simp at this; omega
  have hb : place (s.drop k) = 0 := by
    unfold place
    rw [units_cons 0 _ hne, placeOf_bad _ _]
    · rfl
    · have := hr k k1 k2
      rw [dec_lone (s.drop k) (by rw [byt_drop]; simpa using this.1) (by rw [byt_drop]; left; simpa using (by omega : byt s k < 194))]
      rfl
  have := place_append (a := [97]) (s.drop k) (by decide)
  rw [List.singleton_append] at this
  rw [this, hb]
  rfl
end U
end Go.Proofs.YtjfgcbikdibjeaaGreatDoor

/- Plain laws on rows: where a place's row begins and ends, what kind it is. No program in sight. -/
namespace Go.Proofs.YtjfgcbikdibjeaaGreatDoor
namespace U
open Go

/-- How many bytes from a place on are of a kind. -/
def run (P : Nat → Bool) (l : List UInt8) (p : Nat) : Nat := ((l.drop p).takeWhile fun b => P b.toNat).length
theorem run_step {P : Nat → Bool} {l : List UInt8} {p : Nat} (h : p < l.length) (hP : P (byt l p) = true) : run P l p = run P l (p + 1) + 1 := by
  unfold run
  rw [List.drop_eq_getElem_cons h, List.takeWhile_cons, byt_get l p h, if_pos hP]
  rfl
theorem run_stop {P : Nat → Bool} {l : List UInt8} {p : Nat} (h : P (byt l p) = false) : run P l p = 0 := by
  unfold run
  by_cases hp : p < l.length
  · rw [List.drop_eq_getElem_cons hp, List.takeWhile_cons, byt_get l p hp, if_neg (by rw [h]; decide)]
    rfl
  · rw [List.drop_eq_nil_of_le (by omega)]; rfl
theorem run_end {P : Nat → Bool} {l : List UInt8} {p : Nat} (h : l.length ≤ p) : run P l p = 0 := by
  unfold run
  rw [List.drop_eq_nil_of_le h]; rfl
theorem run_le (P : Nat → Bool) (l : List UInt8) (p : Nat) : run P l p ≤ l.length - p := by
  have h : run P l p ≤ (l.drop p).length := (List.takeWhile_prefix _).length_le
  rw [List.length_drop] at h
  exact h
/-- What a run is, said of a place at which it ends. -/
theorem run_is {P : Nat → Bool} {l : List UInt8} : ∀ (k p : Nat), p + k ≤ l.length → (∀ j, p ≤ j → j < p + k → P (byt l j) = true) → (p + k = l.length ∨ P (byt l (p + k)) = false) → run P l p = k := by
  intro k
  induction k with
  | zero =>
    intro p _ _ h
    rcases h with h | h
    · exact run_end (by omega)
    · exact run_stop h
  | succ k ih =>
    intro p hl ha h
    rw [run_step (by omega) (ha p (by omega) (by omega)), ih (p + 1) (by omega) (fun j h1 h2 => ha j (by omega) (by omega)) (by rw [show p + 1 + k = p + (k + 1) by omega]; exact h)]
theorem run_all {P : Nat → Bool} {l : List UInt8} : ∀ (j p : Nat), p ≤ j → j < p + run P l p → P (byt l j) = true := by
  intro j
  suffices h : ∀ (d p : Nat), p + d = j → j < p + run P l p → P (byt l j) = true by
    intro p hp hj
    exact h (j - p) p (by omega) hj
  intro d
  induction d with
  | zero =>
    intro p hp hj
    cases hq : P (byt l p) with
    | true => rw [← hp]; simpa using hq
    | false => rw [run_stop hq] at hj; omega
  | succ d ih =>
    intro p hp hj
    cases hq : P (byt l p) with
    | true =>
      have hl : p < l.length := by have := run_le P l p; omega
      rw [run_step hl hq] at hj
      exact ih (p + 1) (by omega) (by omega)
    | false => rw [run_stop hq] at hj; omega
theorem run_off {P : Nat → Bool} {l : List UInt8} : ∀ (d p : Nat), d = l.length - p → p + run P l p < l.length → P (byt l (p + run P l p)) = false := by
  intro d
  induction d with
  | zero => intro p hd h; omega
  | succ d ih =>
    intro p hd h
    cases hq : P (byt l p) with
    | true =>
      rw [run_step (by omega) hq] at h ⊢
      rw [show p + (run P l (p + 1) + 1) = p + 1 + run P l (p + 1) by omega] at h ⊢
      exact ih (p + 1) (by omega) h
    | false => rw [run_stop hq]; exact hq
theorem run_mid {P : Nat → Bool} {l : List UInt8} : ∀ (k p : Nat), k ≤ run P l p → run P l p = k + run P l (p + k) := by
  intro k
  induction k with
  | zero => intro p _; simp
  | succ k ih =>
    intro p h
    cases hq : P (byt l p) with
    | true =>
      have hl : p < l.length := by have := run_le P l p; omega
      rw [run_step hl hq] at h ⊢
      rw [ih (p + 1) (by omega), show p + 1 + k = p + (k + 1) by omega]
      omega
    | false => rw [run_stop hq] at h; omega

def notFeed (b : Nat) : Bool := decide (b ≠ 10)
def blankN (b : Nat) : Bool := decide (b = 32)
theorem wh_notFeed {b : Nat} (h : whN b = true) : notFeed b = true := by
  unfold whN at h; unfold notFeed; simp at h ⊢; omega

/-- Where a place's row begins. -/
def rowFrom (l : List UInt8) : Nat → Nat
  | 0 => 0
  | p + 1 => if byt l p = 10 then p + 1 else rowFrom l p
/-- Where it ends. -/
def rowTo (l : List UInt8) (p : Nat) : Nat := p + run notFeed l p
theorem rowFrom_le (l : List UInt8) : ∀ p, rowFrom l p ≤ p
  | 0 => Nat.le_refl _
  | p + 1 => by
    rw [rowFrom]
    split
    · exact Nat.le_refl _
    · exact Nat.le_succ_of_le (rowFrom_le l p)
theorem rowFrom_begin (l : List UInt8) : ∀ p, rowFrom l p = 0 ∨ byt l (rowFrom l p - 1) = 10
  | 0 => .inl rfl
  | p + 1 => by
    rw [rowFrom]
    split
    · rename_i h; exact .inr h
    · exact rowFrom_begin l p
theorem rowFrom_in (l : List UInt8) : ∀ p j, rowFrom l p ≤ j → j < p → byt l j ≠ 10
  | 0, j, _, h => by omega
  | p + 1, j, h1, h2 => by
    rw [rowFrom] at h1
    split at h1
    · omega
    · rename_i h
      rcases Nat.lt_or_ge j p with hj | hj
      · exact rowFrom_in l p j h1 hj
      · rw [show j = p by omega]; exact h
theorem rowFrom_is {l : List UInt8} : ∀ {p f : Nat}, f ≤ p → (f = 0 ∨ byt l (f - 1) = 10) → (∀ j, f ≤ j → j < p → byt l j ≠ 10) → rowFrom l p = f
  | 0, f, h, _, _ => by rw [rowFrom]; omega
  | p + 1, f, h, hb, hn => by
    rw [rowFrom]
    split
    · rename_i h10
      rcases Nat.lt_or_ge p f with hf | hf
      · omega
      · exact absurd h10 (hn p hf (by omega))
    · rename_i h10
      rcases Nat.lt_or_ge p f with hf | hf
      · have : f = p + 1 := by omega
        subst this
        rcases hb with hb | hb
        · omega
        · exact absurd hb h10
      · exact rowFrom_is hf hb (fun j h1 h2 => hn j h1 (by omega))
/-- Two places of one row. -/
theorem rowFrom_same {l : List UInt8} {p q : Nat} (h : p ≤ q) (hn : ∀ j, p ≤ j → j < q → byt l j ≠ 10) : rowFrom l q = rowFrom l p :=
  rowFrom_is (Nat.le_trans (rowFrom_le l p) h) (rowFrom_begin l p) fun j h1 h2 => by
    rcases Nat.lt_or_ge j p with hj | hj
    · exact rowFrom_in l p j h1 hj
    · exact hn j hj h2
theorem rowFrom_self (l : List UInt8) (p : Nat) : rowFrom l (rowFrom l p) = rowFrom l p :=
  rowFrom_is (Nat.le_refl _) (rowFrom_begin l p) (fun j h1 h2 => by omega)
theorem rowTo_le {l : List UInt8} {p : Nat} (h : p ≤ l.length) : rowTo l p ≤ l.length := by
  have := run_le notFeed l p; unfold rowTo; omega
theorem rowTo_ge (l : List UInt8) (p : Nat) : p ≤ rowTo l p := by unfold rowTo; omega
theorem notFeed_iff (b : Nat) : notFeed b = true ↔ b ≠ 10 := by simp [notFeed]
theorem rowTo_in {l : List UInt8} {p j : Nat} (h1 : p ≤ j) (h2 : j < rowTo l p) : byt l j ≠ 10 := (notFeed_iff _).1 (run_all j p h1 h2)
theorem rowTo_off {l : List UInt8} {p : Nat} (h : rowTo l p < l.length) : byt l (rowTo l p) = 10 := by
  have := run_off (P := notFeed) (l := l) _ p rfl h
  simpa [notFeed, rowTo] using this
theorem rowTo_is {l : List UInt8} {p t : Nat} (h1 : p ≤ t) (h2 : t ≤ l.length) (h3 : t = l.length ∨ byt l t = 10) (h4 : ∀ j, p ≤ j → j < t → byt l j ≠ 10) : rowTo l p = t := by
  unfold rowTo
  rw [run_is (t - p) p (by omega) (fun j a b => (notFeed_iff _).2 (h4 j a (by omega))) (by
    rw [show p + (t - p) = t by omega]
    rcases h3 with h3 | h3
    · exact .inl h3
    · exact .inr (by simp [notFeed, h3]))]
  omega
theorem rowTo_same {l : List UInt8} {p q : Nat} (h : p ≤ q) (hq : q ≤ l.length) (hn : ∀ j, p ≤ j → j < q → byt l j ≠ 10) : rowTo l q = rowTo l p := by
  symm
  refine rowTo_is (Nat.le_trans h (rowTo_ge l q)) (rowTo_le hq) ?_ fun j h1 h2 => ?_
  · rcases Nat.lt_or_ge (rowTo l q) l.length with h' | h'
    · exact .inr (rowTo_off h')
    · exact .inl (by have := rowTo_le hq; omega)
  · rcases Nat.lt_or_ge j q with hj | hj
    · exact hn j h1 hj
    · exact rowTo_in hj h2
/-- The row's end, seen from where it begins. -/
theorem rowTo_from {l : List UInt8} {p : Nat} (hp : p ≤ l.length) : rowTo l (rowFrom l p) = rowTo l p :=
  (rowTo_same (rowFrom_le l p) hp (fun j h1 h2 => rowFrom_in l p j h1 h2)).symm
theorem from_le_to (l : List UInt8) (p : Nat) : rowFrom l p ≤ rowTo l p := Nat.le_trans (rowFrom_le l p) (rowTo_ge l p)

/-- How many blanks a place's row begins with. -/
def inM (l : List UInt8) (p : Nat) : Nat := run blankN l (rowFrom l p)
theorem run_mono {P Q : Nat → Bool} (h : ∀ b, P b = true → Q b = true) {l : List UInt8} {p : Nat} : run P l p ≤ run Q l p := by
  rcases Nat.le_total (run P l p) (run Q l p) with h1 | h1
  · exact h1
  · rcases Nat.lt_or_ge (run Q l p) (run P l p) with h2 | h2
    · exfalso
      have hl := run_le P l p
      have a := run_off (P := Q) (l := l) _ p rfl (by omega)
      have b := run_all (P := P) (l := l) (p + run Q l p) p (by omega) (by omega)
      rw [h _ b] at a
      cases a
    · omega
theorem in_le {l : List UInt8} {p : Nat} (hp : p ≤ l.length) : rowFrom l p + inM l p ≤ rowTo l p := by
  rw [← rowTo_from hp]
  have : run blankN l (rowFrom l p) ≤ run notFeed l (rowFrom l p) := run_mono (fun b h => by unfold blankN at h; unfold notFeed; simp at h ⊢; omega)
  unfold rowTo inM
  omega
/-- The first place from one on, up to another, that is not White. -/
def firstM (l : List UInt8) (from' to : Nat) : Nat := min to (from' + run whN l from')
theorem first_row {l : List UInt8} (f : Nat) : f + run whN l f ≤ rowTo l f := by
  have : run whN l f ≤ run notFeed l f := run_mono (fun b h => wh_notFeed h)
  unfold rowTo
  omega
/-- Nothing but white, or a row's end, stands at a place. -/
def endsM (l : List UInt8) (p : Nat) : Bool := decide (l.length ≤ p) || (whN (byt l p) || decide (byt l p = 10))
/-- A row begins with a mark of three bytes. -/
def markM (l : List UInt8) (c f : Nat) : Bool := decide (f + 3 ≤ l.length ∧ byt l f = c ∧ byt l (f + 1) = c ∧ byt l (f + 2) = c) && endsM l (f + 3)
/-- The kind of a row that begins at a place. -/
def kindF (l : List UInt8) (f : Nat) : Nat :=
  if markM l 45 f then 3 else if markM l 46 f then 4
  else if l.length ≤ f + run whN l f ∨ byt l (f + run whN l f) = 10 then 1 else if byt l (f + run whN l f) = 35 then 2 else 5
def kindM (l : List UInt8) (p : Nat) : Nat := kindF l (rowFrom l p)
theorem kindF_range (l : List UInt8) (f : Nat) : 1 ≤ kindF l f ∧ kindF l f ≤ 5 := by
  unfold kindF
  repeat' split
  all_goals omega
/-- How many blank rows stand right above a row that begins at a place. -/
def aboveF (l : List UInt8) : Nat → Nat → Nat
  | 0, _ => 0
  | k + 1, f => if f = 0 then 0 else if kindM l (f - 1) = 1 then aboveF l k (rowFrom l (f - 1)) + 1 else 0
theorem aboveF_fuel (l : List UInt8) : ∀ (k k' f : Nat), f ≤ k → f ≤ k' → aboveF l k f = aboveF l k' f := by
  intro k
  induction k with
  | zero =>
    intro k' f h _
    obtain rfl : f = 0 := by omega
    cases k' <;> simp [aboveF]
  | succ k ih =>
    intro k' f h h'
    cases k' with
    | zero =>
      obtain rfl : f = 0 := by omega
      simp [aboveF]
    | succ k' =>
      rw [aboveF, aboveF]
      split
      · rfl
      · have := rowFrom_le l (f - 1)
        rw [ih k' _ (by omega) (by omega)]
def aboveR (l : List UInt8) (f : Nat) : Nat := aboveF l f f
theorem aboveR_zero (l : List UInt8) : aboveR l 0 = 0 := rfl
theorem aboveR_step {l : List UInt8} {f : Nat} (h : 0 < f) : aboveR l f = if kindM l (f - 1) = 1 then aboveR l (rowFrom l (f - 1)) + 1 else 0 := by
  obtain ⟨k, rfl⟩ : ∃ k, f = k + 1 := ⟨f - 1, by omega⟩
  have := rowFrom_le l k
  show aboveF l (k + 1) (k + 1) = _
  rw [aboveF, if_neg (by omega)]
  simp only [Nat.add_sub_cancel]
  unfold aboveR
  rw [aboveF_fuel l k (rowFrom l k) (rowFrom l k) (by omega) (Nat.le_refl _)]
theorem aboveF_le (l : List UInt8) : ∀ (k f : Nat), aboveF l k f ≤ k := by
  intro k
  induction k with
  | zero => intro f; simp [aboveF]
  | succ k ih =>
    intro f
    rw [aboveF]
    repeat' split
    · omega
    · have := ih (rowFrom l (f - 1)); omega
    · omega
/-- How many blank rows stand right above a place's row, if nothing but White stands ahead of it. -/
def aboveM (l : List UInt8) (p : Nat) : Nat := if firstM l (rowFrom l p) p < p then 0 else aboveR l (rowFrom l p)
theorem aboveM_le (l : List UInt8) (p : Nat) : aboveM l p ≤ p := by
  unfold aboveM
  split
  · omega
  · exact Nat.le_trans (aboveF_le l _ _) (rowFrom_le l p)
/-- A place held to a text. -/
def heldM (l : List UInt8) (a : Int) : Nat := min a.toNat l.length
theorem heldM_le (l : List UInt8) (a : Int) : heldM l a ≤ l.length := by unfold heldM; omega
theorem heldM_nat {l : List UInt8} {p : Nat} (h : p ≤ l.length) : heldM l (p : Int) = p := by unfold heldM; omega
theorem last_from {l : List UInt8} {p : Nat} (hp : p ≤ l.length) : Lib.lastIndexByte ⟨(l.take p).toArray⟩ 10 = (rowFrom l p : Int) - 1 := by
  have htl : (l.take p).length = p := by rw [List.length_take]; omega
  have hget : ∀ j, j < p → (((⟨(l.take p).toArray⟩ : ByteArray).data[j]!).toNat : Int) = (byt l j : Int) := by
    intro j hj
    have h1 : (⟨(l.take p).toArray⟩ : ByteArray).data[j]! = (l.take p)[j]'(by omega) := getElem!_pos ((l.take p).toArray) j (by simp; omega)
    rw [h1, byt_get, byt_take l p j hj]
  rcases Lib.lastIndexByte_spec ⟨(l.take p).toArray⟩ 10 with ⟨e, hn⟩ | ⟨i, hi, e, hc, hn⟩
  · rw [e, rowFrom_is (f := 0) (Nat.zero_le _) (.inl rfl) (fun j _ h2 h10 => hn j (by rw [size_mk]; omega) (by rw [hget j h2, h10]; rfl))]
    rfl
  · rw [size_mk, htl] at hi hn
    rw [hget i hi] at hc
    rw [e, rowFrom_is (f := i + 1) (by omega) (.inr (by rw [Nat.add_sub_cancel]; omega)) (fun j h1 h2 h10 => hn j (by omega) h2 (by rw [hget j h2, h10]; rfl))]
    omega
theorem index_run (c : UInt8) : ∀ m : List UInt8, Lib.indexByte m c = if (m.takeWhile fun b => decide (b.toNat ≠ c.toNat)).length < m.length then ((m.takeWhile fun b => decide (b.toNat ≠ c.toNat)).length : Int) else -1 := by
  intro m
  induction m with
  | nil => rfl
  | cons b m ih =>
    unfold Lib.indexByte
    by_cases h : b = c
    · subst h; simp
    · have hb : (b == c) = false := by simpa using h
      have hn : b.toNat ≠ c.toNat := fun e => h (UInt8.toNat.inj e)
      have hl : (m.takeWhile fun b => decide (b.toNat ≠ c.toNat)).length ≤ m.length := (List.takeWhile_prefix _).length_le
      have ht : ((b :: m).takeWhile fun b => decide (b.toNat ≠ c.toNat)).length = (m.takeWhile fun b => decide (b.toNat ≠ c.toNat)).length + 1 := by
        rw [List.takeWhile_cons, if_pos (by simpa using hn)]; rfl
      rw [ht, hb, List.length_cons]
      generalize (m.takeWhile fun b => decide (b.toNat ≠ c.toNat)).length = k at *
      by_cases hk : k < m.length
      · rw [if_pos hk] at ih
        rw [ih, if_pos (show k + 1 < m.length + 1 by omega), if_neg (by decide), if_neg (by simp)]
        omega
      · rw [if_neg hk] at ih
        rw [ih, if_neg (show ¬ k + 1 < m.length + 1 by omega)]
        rfl
theorem index_to {l : List UInt8} {p : Nat} (hp : p ≤ l.length) : Lib.indexByte (l.drop p) 10 = if rowTo l p < l.length then (run notFeed l p : Int) else -1 := by
  rw [index_run, List.length_drop]
  show (if run notFeed l p < l.length - p then (run notFeed l p : Int) else -1) = _
  have : run notFeed l p < l.length - p ↔ rowTo l p < l.length := by unfold rowTo; omega
  simp only [this]
end U
end Go.Proofs.YtjfgcbikdibjeaaGreatDoor

/- Plain laws on escapes: what one tells. No program in sight. -/
namespace Go.Proofs.YtjfgcbikdibjeaaGreatDoor
namespace U
open Go

/-- The letters behind a backslash, and what they tell. -/
def escL : List Nat := [48, 97, 98, 116, 110, 118, 102, 114, 101, 9, 32, 34, 47, 92, 78, 95, 76, 80]
def escV : List Nat := [0, 7, 8, 9, 10, 11, 12, 13, 27, 9, 32, 34, 47, 92, 133, 160, 8232, 8233]
/-- From a letter on: what it tells. -/
def shortF (c : Nat) : List Nat → List Nat → Option Nat
  | [], _ => none
  | _, [] => none
  | x :: xs, v :: vs => if x = c then some v else shortF c xs vs
def shortM (c : Nat) : Option Nat := shortF c escL escV
def digM (c : Nat) : Nat := if c = 120 then 2 else if c = 117 then 4 else if c = 85 then 8 else 0
def hexD (c : Nat) : Option Nat := if 48 ≤ c ∧ c ≤ 57 then some (c - 48) else if 97 ≤ c ∧ c ≤ 102 then some (c - 87) else if 65 ≤ c ∧ c ≤ 70 then some (c - 55) else none
theorem hexD_lt {c d : Nat} (h : hexD c = some d) : d < 16 := by
  unfold hexD at h
  split at h
  · injection h; omega
  · split at h
    · injection h; omega
    · split at h
      · injection h; omega
      · cases h
/-- Hex digits, from a number on. -/
def hexF : List UInt8 → Nat → Option Nat
  | [], n => some n
  | b :: t, n => match hexD b.toNat with
    | none => none
    | some d => hexF t (n * 16 + d)
def scalarN (n : Nat) : Prop := n ≤ 1114111 ∧ ¬ (55296 ≤ n ∧ n ≤ 57343)
instance (n : Nat) : Decidable (scalarN n) := by unfold scalarN; infer_instance
def hexO (m : List UInt8) : Option Nat := match hexF m 0 with
  | none => none
  | some n => if scalarN n then some n else none
theorem hexF_grows : ∀ (m : List UInt8) (n k : Nat), hexF m n = some k → n ≤ k := by
  intro m
  induction m with
  | nil => intro n k h; injection h; omega
  | cons b t ih =>
    intro n k h
    rw [hexF] at h
    cases hd : hexD b.toNat with
    | none => rw [hd] at h; cases h
    | some d =>
      rw [hd] at h
      have := ih _ _ h
      omega
theorem hexF_big {m : List UInt8} {n : Nat} (h : 1114111 < n) : (match hexF m n with | none => none | some k => if scalarN k then some k else none) = none := by
  cases hk : hexF m n with
  | none => rfl
  | some k =>
    have := hexF_grows m n k hk
    show (if scalarN k then some k else none) = none
    rw [if_neg (fun h => by have := h.1; omega)]
theorem hexF_lt : ∀ (m : List UInt8) (n k : Nat), hexF m n = some k → k < (n + 1) * 16 ^ m.length := by
  intro m
  induction m with
  | nil => intro n k h; injection h; simp; omega
  | cons b t ih =>
    intro n k h
    rw [hexF] at h
    cases hd : hexD b.toNat with
    | none => rw [hd] at h; cases h
    | some d =>
      rw [hd] at h
      have h1 := ih _ _ h
      have h2 := hexD_lt hd
      refine Nat.lt_of_lt_of_le h1 ?_
      rw [List.length_cons, Nat.pow_succ, Nat.mul_comm (16 ^ t.length) 16, ← Nat.mul_assoc]
      exact Nat.mul_le_mul_right _ (by omega)
/-- An escape at a place: what it tells, where it ends, what is wrong. -/
def escM (l : List UInt8) (a : Int) : Int × Int × Int :=
  if a < 0 ∨ (l.length : Int) ≤ a + 1 ∨ byt l a.toNat ≠ 92 then (0, a, 5)
  else match shortM (byt l (a.toNat + 1)) with
    | some r => ((r : Int), a + 2, 0)
    | none =>
      if digM (byt l (a.toNat + 1)) = 0 ∨ (l.length : Int) < a + 2 + digM (byt l (a.toNat + 1)) then (0, a, 5)
      else match hexO ((l.drop (a.toNat + 2)).take (digM (byt l (a.toNat + 1)))) with
        | some r => ((r : Int), a + 2 + digM (byt l (a.toNat + 1)), 0)
        | none => (0, a, 5)
theorem short_get (i : Nat) (h : i < 18) : shortM (escL.getD i 0) = some (escV.getD i 0) := by
  revert i; decide
theorem short_none {c : Nat} (h : ∀ i, i < 18 → escL.getD i 0 ≠ c) : shortM c = none := by
  unfold shortM escL escV
  have g : ∀ i, i < 18 → escL.getD i 0 = c → False := fun i hi he => h i hi he
  simp only [shortF]
  repeat (rw [if_neg (fun he => by first | exact g 0 (by omega) he | exact g 1 (by omega) he | exact g 2 (by omega) he | exact g 3 (by omega) he | exact g 4 (by omega) he | exact g 5 (by omega) he | exact g 6 (by omega) he | exact g 7 (by omega) he | exact g 8 (by omega) he | exact g 9 (by omega) he | exact g 10 (by omega) he | exact g 11 (by omega) he | exact g 12 (by omega) he | exact g 13 (by omega) he | exact g 14 (by omega) he | exact g 15 (by omega) he | exact g 16 (by omega) he | exact g 17 (by omega) he)])
theorem short_mem {c v : Nat} (h : shortM c = some v) : ∃ i, i < 18 ∧ escL.getD i 0 = c ∧ escV.getD i 0 = v := by
  by_cases hn : ∀ i, i < 18 → escL.getD i 0 ≠ c
  · rw [short_none hn] at h; cases h
  · obtain ⟨i, hi⟩ := Classical.not_forall.1 hn
    obtain ⟨h1, h2⟩ := Classical.not_imp.1 hi
    have h2 : escL.getD i 0 = c := Classical.not_not.1 h2
    refine ⟨i, h1, h2, ?_⟩
    have := short_get i h1
    rw [h2, h] at this
    injection this with this
    exact this.symm
/-- What the program makes of a hex digit: the place among the sixteen, of the small letter. -/
def hexI (c : Nat) : Int := Lib.indexByte [48, 49, 50, 51, 52, 53, 54, 55, 56, 57, 97, 98, 99, 100, 101, 102] (c ||| 32).toUInt8
theorem hexI_all : ∀ c, c < 256 → (hexD c = none → hexI c < 0 ∨ c < 48) ∧ (∀ d, d < 16 → hexD c = some d → hexI c = d ∧ 48 ≤ c) := by decide +kernel
theorem hexI_none {c : Nat} (hc : c < 256) (h : hexD c = none) : hexI c < 0 ∨ c < 48 := (hexI_all c hc).1 h
theorem hexI_some {c d : Nat} (hc : c < 256) (h : hexD c = some d) : hexI c = d ∧ 48 ≤ c := (hexI_all c hc).2 d (hexD_lt h) h
end U
end Go.Proofs.YtjfgcbikdibjeaaGreatDoor

/- Plain laws on lines and columns. No program in sight. -/
namespace Go.Proofs.YtjfgcbikdibjeaaGreatDoor
namespace U
open Go

/-- How many LF there are. -/
def lf (l : List UInt8) : Nat := l.count 10
/-- What stands behind the last LF. -/
def tl (l : List UInt8) : List UInt8 := l.foldl (fun acc b => if b = 10 then [] else acc ++ [b]) []
def at' (l : List UInt8) (p : Nat) : Nat × Nat := (lf (l.take p) + 1, width (tl (l.take p)) + 1)

theorem lf_nil : lf [] = 0 := rfl
theorem tl_nil : tl [] = [] := rfl
theorem lf_append (a b : List UInt8) : lf (a ++ b) = lf a + lf b := by simp [lf]
theorem lf_le (l : List UInt8) : lf l ≤ l.length := List.count_le_length
theorem lf_snoc (l : List UInt8) (b : UInt8) : lf (l ++ [b]) = if b = 10 then lf l + 1 else lf l := by
  rw [lf_append]
  by_cases h : b = 10
  · subst h; simp [lf]
  · simp [lf, h]
theorem tl_snoc (l : List UInt8) (b : UInt8) : tl (l ++ [b]) = if b = 10 then [] else tl l ++ [b] := by simp [tl]
theorem tl_append (a : List UInt8) : ∀ (b : List UInt8), (∀ x ∈ b, x ≠ 10) → tl (a ++ b) = tl a ++ b := by
  intro b
  induction b generalizing a with
  | nil => intro _; simp
  | cons x b ih =>
    intro h
    have := ih (a ++ [x]) (fun y hy => h y (List.mem_cons_of_mem _ hy))
    rw [List.append_assoc, List.singleton_append] at this
    rw [this, tl_snoc, if_neg (h x (List.mem_cons_self ..)), List.append_assoc, List.singleton_append]
theorem lf_none (b : List UInt8) (h : ∀ x ∈ b, x ≠ 10) : lf b = 0 := by
  unfold lf
  exact List.count_eq_zero.2 (fun hh => h 10 hh rfl)
theorem take_snoc (l : List UInt8) (k : Nat) (h : k < l.length) : l.take (k + 1) = l.take k ++ [l[k]'h] := List.take_succ_eq_append_getElem h
theorem get_iff (l : List UInt8) (k : Nat) (h : k < l.length) : l[k]'h = 10 ↔ byt l k = 10 := by
  rw [← byt_get l k h]
  constructor
  · intro hh; rw [hh]; rfl
  · intro hh
    exact UInt8.toNat.inj (by rw [hh]; rfl)
theorem lf_step (l : List UInt8) (k : Nat) (h : k < l.length) : lf (l.take (k + 1)) = if byt l k = 10 then lf (l.take k) + 1 else lf (l.take k) := by
  rw [take_snoc l k h, lf_snoc]
  simp only [get_iff l k h]
theorem tl_step (l : List UInt8) (k : Nat) (h : k < l.length) : tl (l.take (k + 1)) = if byt l k = 10 then [] else tl (l.take k) ++ [l[k]'h] := by
  rw [take_snoc l k h, tl_snoc]
  simp only [get_iff l k h]

/-- What stands behind the last LF, by its place. -/
theorem tl_last (l : List UInt8) : tl l = l.drop (Lib.lastIndexByte ⟨l.toArray⟩ 10 + 1).toNat ∧ -1 ≤ Lib.lastIndexByte ⟨l.toArray⟩ 10 ∧ Lib.lastIndexByte ⟨l.toArray⟩ 10 < l.length := by
  have hg : ∀ (j : Nat) (hj : j < l.length), (((⟨l.toArray⟩ : ByteArray).data[j]!).toNat : Int) ≠ 10 → l[j]'hj ≠ 10 := by
    intro j hj h h2
    apply h
    show (((l.toArray)[j]!).toNat : Int) = 10
    rw [getElem!_pos l.toArray j (by simpa using hj)]
    simp [h2]
  rcases Lib.lastIndexByte_spec ⟨l.toArray⟩ 10 with ⟨e, hn⟩ | ⟨i, hi, e, hc, hn⟩
  · rw [e]
    refine ⟨?_, by omega, by omega⟩
    have := tl_append [] l (fun x hx => by
      obtain ⟨j, hj, rfl⟩ := List.mem_iff_getElem.1 hx
      exact hg j hj (hn j hj))
    simpa [tl_nil] using this
  · have hi : i < l.length := hi
    rw [e]
    refine ⟨?_, by omega, by omega⟩
    have h1 : l[i]'hi = 10 := by
      have h2 : (((l.toArray)[i]!).toNat : Int) = 10 := hc
      rw [getElem!_pos l.toArray i (by simpa using hi)] at h2
      rw [List.getElem_toArray] at h2
      exact UInt8.toNat.inj (Int.ofNat.inj h2)
    have h3 := tl_append (l.take (i + 1)) (l.drop (i + 1)) (fun x hx => by
      obtain ⟨j, hj, rfl⟩ := List.mem_iff_getElem.1 hx
      rw [List.length_drop] at hj
      rw [List.getElem_drop]
      exact hg (i + 1 + j) (by omega) (hn _ (by omega) (by show _ < l.length; omega)))
    rw [List.take_append_drop, tl_step l i hi, if_pos ((get_iff l i hi).1 h1), List.nil_append] at h3
    exact h3

/-! ### A unit's bytes. -/
theorem lf_byte (m : List UInt8) : (dec m).1 = 10 ↔ byt m 0 = 10 := by
  constructor
  · intro h
    cases hb : bad m with
    | true => rw [dec_bad hb] at h; simp at h
    | false =>
      have h2 := one_good hb
      have h3 := one_eq m
      rw [h2] at h3
      have h4 := dec_w_pos m
      rw [h3] at h h4
      unfold oneN at h h4
      repeat' split at h
      all_goals simp_all
      all_goals omega
  · intro h
    rw [dec_one m (by omega)]; exact h
theorem byt_mem {m : List UInt8} {x : UInt8} (h : x ∈ m) : ∃ i, i < m.length ∧ byt m i = x.toNat := by
  obtain ⟨i, hi, rfl⟩ := List.mem_iff_getElem.1 h
  exact ⟨i, hi, (byt_get m i hi).symm⟩
theorem unit_no_lf (m : List UInt8) (hne : m ≠ []) (h : byt m 0 ≠ 10) : ∀ x ∈ m.take (dec m).2, x ≠ 10 := by
  intro x hx hx10
  subst hx10
  obtain ⟨i, hi, hb⟩ := byt_mem hx
  rw [List.length_take] at hi
  rw [byt_take _ _ _ (by omega)] at hb
  have hb : byt m i = 10 := hb
  have hi0 : i ≠ 0 := by rintro rfl; exact h hb
  cases hbad : bad m with
  | true =>
    rw [dec_bad hbad] at hi
    simp only [] at hi
    omega
  | false =>
    have he := encR_dec m hne hbad
    have hv := dec_valid m
    by_cases h128 : (dec m).1 < 128
    · have hl1 : (Lib.encodeRune ((dec m).1 : Int)).length = 1 := by
        unfold Lib.encodeRune; rw [Lib.encodeRuneZ_one (by omega) (by omega)]; rfl
      rw [he, List.length_take] at hl1
      omega
    · have hh := (enc_head (dec m).1 (by omega) hv).2 i (by omega) (by rw [he, List.length_take]; omega)
      rw [he, byt_take _ _ _ (by omega), hb] at hh
      omega

theorem dec_take (m : List UInt8) (k : Nat) (hk : (dec m).2 ≤ k) (hne : m ≠ []) : dec (m.take k) = dec m := by
  have hw := dec_w_pos m
  have hwl := dec_w_le m hne
  have hne2 : m.take k ≠ [] := by
    intro hh
    have := congrArg List.length hh
    rw [List.length_take, List.length_nil] at this
    have hp : 0 < m.length := List.length_pos_iff.2 hne
    omega
  cases hb : bad m with
  | true =>
    cases hb2 : bad (m.take k) with
    | true => rw [dec_bad hb, dec_bad hb2]
    | false =>
      have := dec_append (m.take k) (m.drop k) hne2 hb2
      rw [List.take_append_drop] at this
      exact this.symm
  | false =>
    have he := encR_dec m hne hb
    have hf := fixr_dec m
    have e1 : m.take k = Lib.encodeRune ((dec m).1 : Int) ++ (m.drop (dec m).2).take (k - (dec m).2) := by
      rw [he, ← List.take_add, Nat.add_sub_cancel' hk]
    rw [e1, dec_enc, hf]
    have hlen : (Lib.encodeRune ((dec m).1 : Int)).length = (dec m).2 := by rw [he, List.length_take]; omega
    rw [hlen]
    simp

/-- The place behind k units. -/
def adv : Nat → List UInt8 → Nat
  | 0, _ => 0
  | k + 1, m => if m = [] then 0 else (dec m).2 + adv k (m.drop (dec m).2)
theorem adv_succ (k : Nat) : ∀ m, adv k m < m.length → adv (k + 1) m = adv k m + (dec (m.drop (adv k m))).2 := by
  induction k with
  | zero =>
    intro m h
    have hne : m ≠ [] := by intro hh; subst hh; simp [adv] at h
    simp [adv, hne]
  | succ k ih =>
    intro m h
    by_cases hne : m = []
    · subst hne; simp at h
    have e : adv (k + 1) m = (dec m).2 + adv k (m.drop (dec m).2) := by rw [adv, if_neg hne]
    have hwl := dec_w_le m hne
    rw [e] at h ⊢
    rw [adv, if_neg hne, ih (m.drop (dec m).2) (by rw [List.length_drop]; omega), List.drop_drop]
    omega
theorem width_adv (k : Nat) : ∀ m, adv k m ≤ m.length → (k = 0 ∨ adv (k - 1) m < m.length) → width (m.take (adv k m)) = k := by
  induction k with
  | zero => intro m _ _; simp [adv, width, units_nil]
  | succ k ih =>
    intro m h h'
    have hne : m ≠ [] := by
      rintro rfl
      rcases h' with h' | h'
      · omega
      · simp at h'
    have hw := dec_w_pos m
    have hwl := dec_w_le m hne
    have e : adv (k + 1) m = (dec m).2 + adv k (m.drop (dec m).2) := by rw [adv, if_neg hne]
    rw [e] at h ⊢
    have hne2 : m.take ((dec m).2 + adv k (m.drop (dec m).2)) ≠ [] := by
      intro hh
      have := congrArg List.length hh
      rw [List.length_take, List.length_nil] at this
      omega
    unfold width
    rw [units_cons 0 _ hne2, dec_take m _ (by omega) hne, List.length_cons]
    have e2 : (m.take ((dec m).2 + adv k (m.drop (dec m).2))).drop (dec m).2 = (m.drop (dec m).2).take (adv k (m.drop (dec m).2)) := by
      rw [List.drop_take]
      congr 1
      omega
    rw [e2, units_shift, List.length_map]
    have := ih (m.drop (dec m).2) (by rw [List.length_drop]; omega) (by
      rcases Nat.eq_zero_or_pos k with hk | hk
      · left; exact hk
      · right
        rcases h' with h' | h'
        · omega
        · obtain ⟨j, rfl⟩ : ∃ j, k = j + 1 := ⟨k - 1, by omega⟩
          simp only [Nat.add_sub_cancel] at h' ⊢
          rw [adv, if_neg hne] at h'
          rw [List.length_drop]
          omega)
    unfold width at this
    rw [this]

/-- At a place that begins a unit: so many lines, so many columns. -/
def Sp (l : List UInt8) (pos L C : Nat) : Prop :=
  L = lf (l.take pos) + 1 ∧ ∃ f k, C = k + 1 ∧ f ≤ l.length ∧ pos = f + adv k (l.drop f) ∧ pos ≤ l.length ∧ (k = 0 ∨ adv (k - 1) (l.drop f) < (l.drop f).length) ∧ tl (l.take pos) = (l.take pos).drop f
theorem Sp_zero (l : List UInt8) : Sp l 0 1 1 := ⟨rfl, 0, 0, rfl, Nat.zero_le _, rfl, Nat.zero_le _, .inl rfl, by simp [tl_nil]⟩
theorem Sp_at {l : List UInt8} {pos L C : Nat} (h : Sp l pos L C) : at' l pos = (L, C) := by
  obtain ⟨h1, f, k, h2, hf, h3, h4, h5, h6⟩ := h
  unfold at'
  rw [← h1, h6, List.drop_take, h3, Nat.add_sub_cancel_left, width_adv k _ (by rw [List.length_drop]; omega) h5, h2]
theorem Sp_le {l : List UInt8} {pos L C : Nat} (h : Sp l pos L C) : L ≤ pos + 1 ∧ C ≤ pos + 1 := by
  have h0 := Sp_at h
  obtain ⟨h1, f, k, h2, hf, h3, h4, h5, h6⟩ := h
  unfold at' at h0
  have := lf_le (l.take pos)
  rw [List.length_take] at this
  have h7 := width_le (tl (l.take pos))
  rw [h6, List.length_drop, List.length_take] at h7
  injection h0 with h8 h9
  rw [h6] at h9
  omega
theorem Sp_feed {l : List UInt8} {pos L C : Nat} (h : Sp l pos L C) (hlt : pos < l.length) (hb : byt l pos = 10) : Sp l (pos + 1) (L + 1) 1 := by
  obtain ⟨h1, f, k, h2, hf, h3, h4, h5, h6⟩ := h
  refine ⟨?_, pos + 1, 0, rfl, hlt, rfl, hlt, .inl rfl, ?_⟩
  · rw [lf_step l pos hlt, if_pos hb]; omega
  · rw [tl_step l pos hlt, if_pos hb, List.drop_eq_nil_of_le (by rw [List.length_take]; omega)]
theorem Sp_on {l : List UInt8} {pos L C n : Nat} (h : Sp l pos L C) (hlt : pos < l.length) (hb : byt l pos ≠ 10) (hn : (dec (l.drop pos)).2 = n) : Sp l (pos + n) L (C + 1) := by
  obtain ⟨h1, f, k, h2, hf, h3, h4, h5, h6⟩ := h
  have hne : l.drop pos ≠ [] := by intro hh; have := congrArg List.length hh; simp at this; omega
  have hb' : byt (l.drop pos) 0 ≠ 10 := by rw [byt_drop]; simpa using hb
  have hnl := unit_no_lf (l.drop pos) hne hb'
  have hwl := dec_w_le (l.drop pos) hne
  rw [List.length_drop] at hwl
  have hs := adv_succ k (l.drop f) (by rw [List.length_drop]; omega)
  rw [List.drop_drop, ← h3, hn] at hs
  rw [hn] at hnl hwl
  have et : l.take (pos + n) = l.take pos ++ (l.drop pos).take n := by rw [List.take_add]
  refine ⟨?_, f, k + 1, by omega, hf, by rw [hs]; omega, by omega, .inr ?_, ?_⟩
  · rw [et, lf_append, lf_none _ hnl]; omega
  · rw [List.length_drop, Nat.add_sub_cancel]; omega
  · rw [et, tl_append _ _ hnl, h6, List.drop_append_of_le_length (by rw [List.length_take]; omega)]

/-- The first place of a row of places that has a line and a column. -/
def findAt (l : List UInt8) (line col : Int) (ps : List Nat) : Int × Bool :=
  match ps.find? (fun p => decide (((at' l p).1 : Int) = line) && decide (((at' l p).2 : Int) = col)) with
  | some p => (p, true)
  | none => (0, false)
/-- Places that begin units, and the end. -/
def starts (pos : Nat) (l : List UInt8) : List Nat := (units pos (l.drop pos)).map (·.1) ++ [l.length]
def back (l : List UInt8) (line col : Int) : Int × Bool := findAt l line col (starts 0 l)
theorem findAt_hit (l : List UInt8) (line col : Int) (p : Nat) (ps : List Nat) (h1 : ((at' l p).1 : Int) = line) (h2 : ((at' l p).2 : Int) = col) : findAt l line col (p :: ps) = ((p : Int), true) := by
  simp [findAt, h1, h2]
theorem findAt_miss (l : List UInt8) (line col : Int) (p : Nat) (ps : List Nat) (h : ¬ (((at' l p).1 : Int) = line ∧ ((at' l p).2 : Int) = col)) : findAt l line col (p :: ps) = findAt l line col ps := by
  unfold findAt
  rw [List.find?_cons_of_neg (by simpa using h)]
theorem findAt_nil (l : List UInt8) (line col : Int) : findAt l line col [] = (0, false) := rfl
theorem starts_end {l : List UInt8} {pos : Nat} (h : ¬ pos < l.length) : starts pos l = [l.length] := by
  unfold starts
  rw [List.drop_eq_nil_of_le (by omega)]; rfl
theorem starts_at {l : List UInt8} {pos n : Nat} (h : pos < l.length) (hn : (dec (l.drop pos)).2 = n) : starts pos l = pos :: starts (pos + n) l := by
  have hne : l.drop pos ≠ [] := by intro hh; have := congrArg List.length hh; simp at this; omega
  unfold starts
  rw [units_cons pos _ hne, hn, List.map_cons, List.cons_append, List.drop_drop]

/-- A place, held. -/
def held (l : List UInt8) (p : Int) : Nat := (min (max p 0) (l.length : Int)).toNat
theorem held_le (l : List UInt8) (p : Int) : held l p ≤ l.length := by unfold held; omega
end U
end Go.Proofs.YtjfgcbikdibjeaaGreatDoor

/- Plain laws on texts: ends of rows, clean texts. No program in sight. -/
namespace Go.Proofs.YtjfgcbikdibjeaaGreatDoor
namespace U
open Go

/-! ### strings.ReplaceAll, byte by byte. -/
theorem index_cons_no {b : UInt8} {l o : List UInt8} (h : o.isPrefixOf (b :: l) = false) : Lib.index (b :: l) o = if Lib.index l o == -1 then -1 else Lib.index l o + 1 := by
  rw [Lib.index, if_neg (by rw [h]; decide)]
theorem index_cons_yes {s o : List UInt8} (hs : s ≠ []) (h : o.isPrefixOf s = true) : Lib.index s o = 0 := by
  cases s with
  | nil => exact absurd rfl hs
  | cons b l => rw [Lib.index, if_pos h]
theorem repl_nil (o n : List UInt8) (ho : o ≠ []) (hne : o ≠ n) : Lib.replaceAll [] o n = [] := by
  have hi : Lib.index [] o = -1 := by
    rw [Lib.index, if_neg]
    cases o with
    | nil => exact absurd rfl ho
    | cons a t => simp
  unfold Lib.replaceAll Lib.replace
  rw [if_neg (by simpa using hne), Lib.replaceNum, if_pos (Or.inl (by decide)), Lib.count_miss hi]
  rfl
theorem repl_eq (s o n : List UInt8) (hne : o ≠ n) : Lib.replaceAll s o n = Lib.replaceK o n (Lib.count s o) s := by
  unfold Lib.replaceAll Lib.replace
  rw [if_neg (by simpa using hne), Lib.replaceNum, if_pos (Or.inl (by decide))]
theorem repl_yes (s o n : List UInt8) (ho : o ≠ []) (hs : s ≠ []) (hne : o ≠ n) (h : o.isPrefixOf s = true) : Lib.replaceAll s o n = n ++ Lib.replaceAll (s.drop o.length) o n := by
  have hi : Lib.index s o = (0 : Nat) := index_cons_yes hs h
  rw [repl_eq s o n hne, repl_eq _ o n hne, Lib.count_hit ho hi, Nat.add_comm 1, Lib.replaceK_hit o n _ s 0 hi]
  simp
theorem repl_no (b : UInt8) (l o n : List UInt8) (ho : o ≠ []) (hne : o ≠ n) (h : o.isPrefixOf (b :: l) = false) : Lib.replaceAll (b :: l) o n = b :: Lib.replaceAll l o n := by
  have hi := index_cons_no h
  rw [repl_eq _ o n hne, repl_eq _ o n hne]
  have hg := Lib.index_ge l o
  by_cases hm : Lib.index l o = -1
  · rw [hm] at hi
    rw [Lib.count_miss (show Lib.index (b :: l) o = -1 by rw [hi]; rfl), Lib.count_miss hm]
    rfl
  · obtain ⟨i, hx⟩ : ∃ i : Nat, Lib.index l o = i := ⟨(Lib.index l o).toNat, by omega⟩
    have hx2 : Lib.index (b :: l) o = ((i + 1 : Nat) : Int) := by
      rw [hi, hx, if_neg (by simp)]; rfl
    rw [Lib.count_hit ho hx2, Lib.count_hit ho hx, Nat.add_comm 1, Nat.add_comm 1, Lib.replaceK_hit o n _ _ _ hx2, Lib.replaceK_hit o n _ _ _ hx]
    rw [show i + 1 + o.length = (i + o.length) + 1 by omega]
    simp

/-- LF for CR. -/
def feed (b : UInt8) : UInt8 := if b = 13 then 10 else b
/-- CR LF and CR are LF. -/
def norm : List UInt8 → List UInt8
  | [] => []
  | [b] => [feed b]
  | b :: c :: t => if b = 13 ∧ c = 10 then 10 :: norm t else feed b :: norm (c :: t)
/-- CR LF is LF. -/
def norm1 : List UInt8 → List UInt8
  | [] => []
  | [b] => [b]
  | b :: c :: t => if b = 13 ∧ c = 10 then 10 :: norm1 t else b :: norm1 (c :: t)
def norm2 (l : List UInt8) : List UInt8 := l.map feed

theorem repl1 (f : Nat) : ∀ l : List UInt8, l.length ≤ f → Lib.replaceAll l [13, 10] [10] = norm1 l := by
  induction f with
  | zero =>
    intro l hl
    have : l = [] := by cases l <;> simp_all
    subst this
    exact repl_nil _ _ (by decide) (by decide)
  | succ f ih =>
    intro l hl
    match l, hl with
    | [], _ => exact repl_nil _ _ (by decide) (by decide)
    | [b], _ =>
      rw [repl_no _ _ _ _ (by decide) (by decide) (by simp [List.isPrefixOf]), repl_nil _ _ (by decide) (by decide)]
      rfl
    | b :: c :: t, hl =>
      by_cases h : b = 13 ∧ c = 10
      · rw [norm1, if_pos h]
        obtain ⟨rfl, rfl⟩ := h
        rw [repl_yes _ _ _ (by decide) (by simp) (by decide) (by simp [List.isPrefixOf])]
        simp only [List.length_cons, List.length_nil, List.drop_succ_cons, List.drop_zero]
        rw [ih t (by simp at hl; omega)]
        rfl
      · rw [norm1, if_neg h, repl_no _ _ _ _ (by decide) (by decide) ?_, ih _ (by simpa using hl)]
        rw [Bool.eq_false_iff]
        intro hh
        simp [List.isPrefixOf] at hh
        exact h ⟨hh.1.symm, hh.2.symm⟩
theorem repl2 (l : List UInt8) : Lib.replaceAll l [13] [10] = norm2 l := by
  induction l with
  | nil => exact repl_nil _ _ (by decide) (by decide)
  | cons b l ih =>
    by_cases hb : b = 13
    · subst hb
      rw [repl_yes _ _ _ (by decide) (by simp) (by decide) (by simp [List.isPrefixOf])]
      simp only [List.length_cons, List.length_nil, List.drop_succ_cons, List.drop_zero]
      rw [ih]
      simp [norm2, feed]
    · rw [repl_no _ _ _ _ (by decide) (by decide) (by simp [List.isPrefixOf, Ne.symm hb]), ih]
      simp [norm2, feed, hb]
theorem norm12 (f : Nat) : ∀ l : List UInt8, l.length ≤ f → norm2 (norm1 l) = norm l := by
  induction f with
  | zero =>
    intro l hl
    have : l = [] := by cases l <;> simp_all
    subst this
    rfl
  | succ f ih =>
    intro l hl
    match l, hl with
    | [], _ => rfl
    | [b], _ => rfl
    | b :: c :: t, hl =>
      by_cases h : b = 13 ∧ c = 10
      · have := ih t (by simp at hl; omega)
        rw [norm1, if_pos h, norm, if_pos h, ← this]
        rfl
      · have := ih (c :: t) (by simpa using hl)
        rw [norm1, if_neg h, norm, if_neg h, ← this]
        rfl
theorem repl_norm (l : List UInt8) : Lib.replaceAll (Lib.replaceAll l [13, 10] [10]) [13] [10] = norm l := by
  rw [repl1 l.length l (Nat.le_refl _), repl2, norm12 l.length l (Nat.le_refl _)]

/-! ### What may stand in a text. -/
/-- Whether a number may stand in a text. -/
def printable (r : Int) : Bool := decide (r = 9 ∨ r = 10 ∨ (32 ≤ r ∧ r ≤ 126) ∨ r = 133 ∨ (r ≠ 65279 ∧ ((160 ≤ r ∧ r ≤ 55295) ∨ (57344 ≤ r ∧ r ≤ 65533) ∨ (65536 ≤ r ∧ r ≤ 1114111))))
/-- A unit that may not stand there. -/
def wrongU (u : Nat × Nat × Nat) : Bool := (u.2.1 == 65533 && u.2.2 == 1) || (u.2.1 != 13 && !printable u.2.1)
def wrongOf (us : List (Nat × Nat × Nat)) : Int := match us.find? wrongU with | some u => (u.1 : Int) | none => -1
/-- The place of the first byte that may not stand there; -1. -/
def wrong (l : List UInt8) : Int := wrongOf (units 0 l)
theorem wrongOf_nil : wrongOf [] = -1 := rfl
theorem wrongOf_yes (u : Nat × Nat × Nat) (us : List (Nat × Nat × Nat)) (h : wrongU u = true) : wrongOf (u :: us) = u.1 := by
  simp [wrongOf, List.find?_cons_of_pos h]
theorem wrongOf_no (u : Nat × Nat × Nat) (us : List (Nat × Nat × Nat)) (h : wrongU u = false) : wrongOf (u :: us) = wrongOf us := by
  unfold wrongOf
  rw [List.find?_cons_of_neg (by simp [h])]
theorem wrongOf_le (l : List UInt8) (pos : Nat) : wrongOf (units pos l) < pos + l.length ∨ wrongOf (units pos l) = -1 := by
  unfold wrongOf
  split
  · rename_i u hu
    left
    have := unitsF_at l.length l pos u (List.mem_of_find?_eq_some hu)
    omega
  · right; rfl
theorem wrong_ge (l : List UInt8) : -1 ≤ wrong l := by
  unfold wrong wrongOf
  split <;> omega
theorem wrong_lt (l : List UInt8) : wrong l < l.length := by
  have := wrongOf_le l 0
  unfold wrong
  omega
theorem unitsF_ge (f : Nat) : ∀ (l : List UInt8) (pos : Nat), ∀ u ∈ unitsF f pos l, pos ≤ u.1 := by
  induction f with
  | zero => intro l pos u hu; simp [unitsF] at hu
  | succ f ih =>
    intro l pos u hu
    cases l with
    | nil => simp [unitsF] at hu
    | cons b t =>
      simp only [unitsF, List.mem_cons] at hu
      rcases hu with rfl | hu
      · exact Nat.le_refl _
      · have := ih _ _ u hu
        omega
theorem placeOf_ge (pos : Nat) (l : List UInt8) : placeOf (units pos l) = -1 ∨ (pos : Int) ≤ placeOf (units pos l) := by
  unfold placeOf
  split
  · rename_i u hu
    right
    have := unitsF_ge l.length l pos u (List.mem_of_find?_eq_some hu)
    omega
  · left; rfl

/-- The mark of UTF-8. -/
def bom : List UInt8 := [239, 187, 191]
/-- A text of bytes: the text, a place, an error's number. -/
def clean (l : List UInt8) : List UInt8 × Int × Int :=
  if 65536 < l.length then ([], 0, 2)
  else if 0 ≤ wrong (Lib.trimPrefix l bom) then ([], wrong (Lib.trimPrefix l bom) + l.length - (Lib.trimPrefix l bom).length, 3)
  else (norm (Lib.trimPrefix l bom), 0, 0)
theorem trim_le (l : List UInt8) : (Lib.trimPrefix l bom).length ≤ l.length := by
  unfold Lib.trimPrefix
  split
  · rw [List.length_drop]; omega
  · exact Nat.le_refl _
theorem norm_le (f : Nat) : ∀ l : List UInt8, l.length ≤ f → (norm l).length ≤ l.length := by
  induction f with
  | zero =>
    intro l hl
    have : l = [] := by cases l <;> simp_all
    subst this
    exact Nat.le_refl _
  | succ f ih =>
    intro l hl
    match l, hl with
    | [], _ => exact Nat.le_refl _
    | [b], _ => exact Nat.le_refl _
    | b :: c :: t, hl =>
      rw [norm]
      split
      · have := ih t (by simp at hl; omega)
        simp; omega
      · have := ih (c :: t) (by simpa using hl)
        simp at this ⊢; omega
theorem norm1_le (f : Nat) : ∀ l : List UInt8, l.length ≤ f → (norm1 l).length ≤ l.length := by
  induction f with
  | zero =>
    intro l hl
    have : l = [] := by cases l <;> simp_all
    subst this
    exact Nat.le_refl _
  | succ f ih =>
    intro l hl
    match l, hl with
    | [], _ => exact Nat.le_refl _
    | [b], _ => exact Nat.le_refl _
    | b :: c :: t, hl =>
      rw [norm1]
      split
      · have := ih t (by simp at hl; omega)
        simp; omega
      · have := ih (c :: t) (by simpa using hl)
        simp at this ⊢; omega

theorem norm_cons {b : UInt8} (h : b ≠ 13) (m : List UInt8) : norm (b :: m) = b :: norm m := by
  cases m with
  | nil => simp [norm, feed, h]
  | cons c t => rw [norm, if_neg (fun hh => h hh.1)]; simp [feed, h]
theorem norm_no (m : List UInt8) : ∀ u : List UInt8, (∀ x ∈ u, x ≠ 13) → norm (u ++ m) = u ++ norm m := by
  intro u
  induction u with
  | nil => intro _; rfl
  | cons b u ih =>
    intro h
    rw [List.cons_append, norm_cons (h b (List.mem_cons_self ..)), ih (fun x hx => h x (List.mem_cons_of_mem _ hx))]
    rfl
theorem dec_byte (m : List UInt8) (c : Nat) (hc : c < 128) (h : byt m 0 = c) : dec m = (c, 1) := by rw [dec_one m (by omega), h]
/-- Of a unit's bytes none but the first is one of ASCII. -/
theorem unit_no (m : List UInt8) (c : UInt8) (hc : c.toNat < 128) (hne : m ≠ []) (h : byt m 0 ≠ c.toNat) : ∀ x ∈ m.take (dec m).2, x ≠ c := by
  intro x hx hxc
  subst hxc
  obtain ⟨i, hi, hb⟩ := byt_mem hx
  rw [List.length_take] at hi
  rw [byt_take _ _ _ (by omega)] at hb
  have hi0 : i ≠ 0 := by rintro rfl; exact h hb
  cases hbad : bad m with
  | true =>
    rw [dec_bad hbad] at hi
    simp only [] at hi
    omega
  | false =>
    have he := encR_dec m hne hbad
    have hv := dec_valid m
    by_cases h128 : (dec m).1 < 128
    · have hl1 : (Lib.encodeRune ((dec m).1 : Int)).length = 1 := by
        unfold Lib.encodeRune; rw [Lib.encodeRuneZ_one (by omega) (by omega)]; rfl
      rw [he, List.length_take] at hl1
      omega
    · have hh := (enc_head (dec m).1 (by omega) hv).2 i (by omega) (by rw [he, List.length_take]; omega)
      rw [he, byt_take _ _ _ (by omega), hb] at hh
      omega
theorem drop_cons (l : List UInt8) (k : Nat) (h : k < l.length) : l.drop k = l[k]'h :: l.drop (k + 1) := List.drop_eq_getElem_cons h
theorem get_byt (l : List UInt8) (k : Nat) (h : k < l.length) (c : UInt8) : l[k]'h = c ↔ byt l k = c.toNat := by
  rw [← byt_get l k h]
  exact ⟨fun hh => by rw [hh], fun hh => UInt8.toNat.inj hh⟩
theorem drop_ne' {l : List UInt8} {q : Nat} (h : q < l.length) : l.drop q ≠ [] := by
  intro hh; have := congrArg List.length hh; simp at this; omega
theorem norm_crlf {l : List UInt8} {k : Nat} (h : k + 1 < l.length) (h1 : byt l k = 13) (h2 : byt l (k + 1) = 10) : norm (l.drop k) = 10 :: norm (l.drop (k + 2)) := by
  rw [drop_cons l k (by omega), drop_cons l (k + 1) h, norm, if_pos ⟨(get_byt l k (by omega) 13).2 h1, (get_byt l (k + 1) h 10).2 h2⟩]
theorem norm_cr {l : List UInt8} {k : Nat} (h : k < l.length) (h1 : byt l k = 13) (h2 : ¬ (k + 1 < l.length ∧ byt l (k + 1) = 10)) : norm (l.drop k) = 10 :: norm (l.drop (k + 1)) := by
  have hk := (get_byt l k h 13).2 h1
  rw [drop_cons l k h, hk]
  by_cases h3 : k + 1 < l.length
  · rw [drop_cons l (k + 1) h3, norm, if_neg (fun hh => h2 ⟨h3, (get_byt l (k + 1) h3 10).1 hh.2⟩)]
    rfl
  · rw [List.drop_eq_nil_of_le (by omega)]
    rfl
theorem norm_unit {l : List UInt8} {k n : Nat} (h : k < l.length) (h1 : byt l k ≠ 13) (hn : (dec (l.drop k)).2 = n) : norm (l.drop k) = (l.drop k).take n ++ norm (l.drop (k + n)) := by
  have := unit_no (l.drop k) 13 (by decide) (drop_ne' h) (by rw [byt_drop, Nat.add_zero]; exact h1)
  rw [hn] at this
  have h2 := norm_no (l.drop (k + n)) _ this
  rw [← h2, ← List.drop_drop, List.take_append_drop]
theorem wrong_byte {l : List UInt8} {k c : Nat} (h : k < l.length) (hc : c = 13 ∨ c = 10) (h1 : byt l k = c) : wrongOf (units k (l.drop k)) = wrongOf (units (k + 1) (l.drop (k + 1))) := by
  have hd : dec (l.drop k) = (c, 1) := dec_byte _ c (by omega) (by rw [byt_drop, Nat.add_zero]; exact h1)
  rw [units_cons k _ (drop_ne' h), hd, List.drop_drop, wrongOf_no]
  rcases hc with rfl | rfl
  · exact (show wrongU (k, 13, 1) = wrongU (0, 13, 1) from rfl).trans (by decide)
  · exact (show wrongU (k, 10, 1) = wrongU (0, 10, 1) from rfl).trans (by decide)
theorem wrong_shift (l : List UInt8) (d : Nat) : wrongOf (units d l) = if 0 ≤ wrong l then wrong l + d else -1 := by
  unfold wrong
  rw [units_shift l d]
  generalize units 0 l = us
  induction us with
  | nil => rfl
  | cons u us ih =>
    cases hb : wrongU u with
    | true =>
      rw [List.map_cons, wrongOf_yes u _ hb, wrongOf_yes (d + u.1, u.2) _ hb, if_pos (by omega)]
      simp only []
      omega
    | false => rw [List.map_cons, wrongOf_no u _ hb, wrongOf_no (d + u.1, u.2) _ hb, ih]
/-- The answer by what is left when the mark is cut off. -/
theorem clean_by {l : List UInt8} {d : Nat} {W : Int} (hl : ¬ 65536 < l.length) (hd : d ≤ l.length) (ht : Lib.trimPrefix l bom = l.drop d) (hW : wrongOf (units d (l.drop d)) = W) :
    clean l = if 0 ≤ W then ([], W, 3) else (norm (l.drop d), 0, 0) := by
  rw [wrong_shift] at hW
  rw [clean, if_neg hl, ht]
  by_cases h : 0 ≤ wrong (l.drop d)
  · rw [if_pos h] at hW
    rw [if_pos h, if_pos (by omega), ← hW, List.length_drop]
    congr 2
    omega
  · rw [if_neg h] at hW
    rw [if_neg h, ← hW, if_neg (by omega)]
theorem trim_by (l : List UInt8) : ∃ d : Nat, d ≤ l.length ∧ Lib.trimPrefix l bom = l.drop d ∧ ((d = 0 ∧ l.length < 3) ∨ (d = 0 ∧ 3 ≤ l.length ∧ (l.take 3 == [239, 187, 191]) = false) ∨ (d = 3 ∧ 3 ≤ l.length ∧ (l.take 3 == [239, 187, 191]) = true)) := by
  have h := Lib.hasPrefix_of_take l bom
  have hb : bom.length = 3 := rfl
  rw [hb] at h
  unfold Lib.trimPrefix
  rw [← h]
  by_cases h3 : 3 ≤ l.length
  · rw [decide_eq_true h3, Bool.true_and]
    cases ht : (l.take 3 == bom) with
    | true => exact ⟨3, h3, rfl, .inr (.inr ⟨rfl, h3, ht⟩)⟩
    | false => exact ⟨0, by omega, rfl, .inr (.inl ⟨rfl, h3, ht⟩)⟩
  · rw [decide_eq_false h3, Bool.false_and]
    exact ⟨0, by omega, rfl, .inl ⟨rfl, by omega⟩⟩
end U
end Go.Proofs.YtjfgcbikdibjeaaGreatDoor

/- Plain laws on escapes: how code points are told, and that what is told is read. -/
namespace Go.Proofs.YtjfgcbikdibjeaaGreatDoor
namespace U
open Go

/-- How a code point is told by a letter. -/
def letM (r : Int) : List UInt8 :=
  if r = 34 then [92, 34] else if r = 92 then [92, 92] else if r = 0 then [92, 48] else if r = 27 then [92, 101]
  else if r = 7 then [92, 97] else if r = 8 then [92, 98] else if r = 9 then [92, 116] else if r = 10 then [92, 110] else if r = 11 then [92, 118] else if r = 12 then [92, 102] else if r = 13 then [92, 114] else []
def hexC (d : Nat) : UInt8 := [48, 49, 50, 51, 52, 53, 54, 55, 56, 57, 97, 98, 99, 100, 101, 102].getD d 48
def hexE : Nat → Nat → List UInt8
  | 0, _ => []
  | k + 1, n => hexE k (n / 16) ++ [hexC (n % 16)]
theorem hexE_length : ∀ (k n : Nat), (hexE k n).length = k := by
  intro k
  induction k with
  | zero => intro n; rfl
  | succ k ih => intro n; rw [hexE, List.length_append, ih]; rfl
def codedM (r : Nat) : List UInt8 := if r ≤ 255 then [92, 120] ++ hexE 2 r else if r ≤ 65535 then [92, 117] ++ hexE 4 r else [92, 85] ++ hexE 8 r
/-- How any number is told. -/
def showM (r : Int) : List UInt8 := if letM (fixr r) ≠ [] then letM (fixr r) else if printable (fixr r) then Lib.encodeRune (fixr r) else codedM (fixr r).toNat
theorem hexC_all : ∀ d, d < 16 → hexD (hexC d).toNat = some d := by decide
theorem hexF_app : ∀ (a b : List UInt8) (n : Nat), hexF (a ++ b) n = match hexF a n with | none => none | some k => hexF b k := by
  intro a
  induction a with
  | nil => intro b n; rfl
  | cons x a ih =>
    intro b n
    rw [List.cons_append, hexF, hexF]
    cases hexD x.toNat with
    | none => rfl
    | some d => exact ih b _
theorem hexF_hexN : ∀ (k n m : Nat), n < 16 ^ k → hexF (hexE k n) m = some (m * 16 ^ k + n) := by
  intro k
  induction k with
  | zero => intro n m h; simp at h; subst h; simp [hexE, hexF]
  | succ k ih =>
    intro n m h
    rw [hexE, hexF_app, ih (n / 16) m (by rw [Nat.pow_succ] at h; omega)]
    show hexF [hexC (n % 16)] _ = _
    rw [hexF, hexC_all _ (by omega)]
    show some ((m * 16 ^ k + n / 16) * 16 + n % 16) = _
    congr 1
    rw [Nat.add_mul, Nat.pow_succ, Nat.mul_assoc]
    omega
theorem byt_at (a t : List UInt8) (i : Nat) : byt (a ++ t) (a.length + i) = byt t i := by
  rw [byt_append_right _ _ _ (by omega)]
  congr 1; omega
/-- An escape of hex digits, wherever it stands, is read. -/
theorem esc_coded (a t : List UInt8) (n : Nat) (hn : scalarN n) : escM (a ++ codedM n ++ t) a.length = ((n : Int), ((a.length + (codedM n).length : Nat) : Int), 0) := by
  have key : ∀ (c : UInt8) (k : Nat), shortM c.toNat = none → digM c.toNat = k → 0 < k → n < 16 ^ k → escM (a ++ ([92, c] ++ hexE k n) ++ t) a.length = ((n : Int), ((a.length + ([92, c] ++ hexE k n).length : Nat) : Int), 0) := by
    intro c k hs hd h0 hk
    have hl := hexE_length k n
    have e : a ++ ([92, c] ++ hexE k n) ++ t = a ++ (92 :: c :: (hexE k n ++ t)) := by simp
    rw [e]
    have b0 : byt (a ++ (92 :: c :: (hexE k n ++ t))) a.length = 92 := byt_at a _ 0
    have b1 : byt (a ++ (92 :: c :: (hexE k n ++ t))) (a.length + 1) = c.toNat := byt_at a _ 1
    have hd2 : (a ++ (92 :: c :: (hexE k n ++ t))).drop (a.length + 2) = hexE k n ++ t := by
      rw [← List.drop_drop, List.drop_left]; rfl
    have hlen : (a ++ (92 :: c :: (hexE k n ++ t))).length = a.length + (2 + k + t.length) := by simp [hl]; omega
    unfold escM
    rw [show ((a.length : Int)).toNat = a.length from rfl, b0, b1, hs, hd, hlen, if_neg (by omega)]
    simp only
    rw [if_neg (by omega), hd2, List.take_left' hl]
    have : hexO (hexE k n) = some n := by
      unfold hexO
      rw [hexF_hexN k n 0 hk]
      simp only [Nat.zero_mul, Nat.zero_add]
      rw [if_pos hn]
    rw [this]
    simp only [List.length_append, List.length_cons, List.length_nil, hl]
    refine Prod.ext rfl (Prod.ext ?_ rfl)
    simp only
    omega
  unfold codedM
  split
  · exact key 120 2 (by decide) (by decide) (by decide) (by omega)
  · split
    · exact key 117 4 (by decide) (by decide) (by decide) (by omega)
    · have := hn.1
      exact key 85 8 (by decide) (by decide) (by decide) (by omega)
/-- An escape by a letter is read. -/
theorem esc_let (a t : List UInt8) (r : Int) (h : letM r ≠ []) : escM (a ++ letM r ++ t) a.length = (r, ((a.length + (letM r).length : Nat) : Int), 0) ∧ ∃ c, letM r = [92, c] ∧ c.toNat < 128 ∧ 32 ≤ c.toNat := by
  have key : ∀ (c : UInt8) (v : Nat), shortM c.toNat = some v → escM (a ++ [92, c] ++ t) a.length = ((v : Int), ((a.length + 2 : Nat) : Int), 0) := by
    intro c v hs
    have e : a ++ [92, c] ++ t = a ++ (92 :: c :: t) := by simp
    rw [e]
    have b0 : byt (a ++ (92 :: c :: t)) a.length = 92 := byt_at a _ 0
    have b1 : byt (a ++ (92 :: c :: t)) (a.length + 1) = c.toNat := byt_at a _ 1
    have hlen : (a ++ (92 :: c :: t)).length = a.length + (2 + t.length) := by simp; omega
    unfold escM
    rw [show ((a.length : Int)).toNat = a.length from rfl, b0, b1, hs, hlen, if_neg (by omega)]
    refine Prod.ext rfl (Prod.ext ?_ rfl)
    simp only
    omega
  have hr : r = 34 ∨ r = 92 ∨ r = 0 ∨ r = 27 ∨ r = 7 ∨ r = 8 ∨ r = 9 ∨ r = 10 ∨ r = 11 ∨ r = 12 ∨ r = 13 := by
    unfold letM at h
    repeat' split at h
    all_goals first
      | omega
      | exact absurd rfl h
  rcases hr with rfl | rfl | rfl | rfl | rfl | rfl | rfl | rfl | rfl | rfl | rfl
  · exact ⟨key 34 34 (by decide), 34, rfl, by decide, by decide⟩
  · exact ⟨key 92 92 (by decide), 92, rfl, by decide, by decide⟩
  · exact ⟨key 48 0 (by decide), 48, rfl, by decide, by decide⟩
  · exact ⟨key 101 27 (by decide), 101, rfl, by decide, by decide⟩
  · exact ⟨key 97 7 (by decide), 97, rfl, by decide, by decide⟩
  · exact ⟨key 98 8 (by decide), 98, rfl, by decide, by decide⟩
  · exact ⟨key 116 9 (by decide), 116, rfl, by decide, by decide⟩
  · exact ⟨key 110 10 (by decide), 110, rfl, by decide, by decide⟩
  · exact ⟨key 118 11 (by decide), 118, rfl, by decide, by decide⟩
  · exact ⟨key 102 12 (by decide), 102, rfl, by decide, by decide⟩
  · exact ⟨key 114 13 (by decide), 114, rfl, by decide, by decide⟩
theorem let_range {r : Int} (h : letM r ≠ []) : 0 ≤ r ∧ r ≤ 92 := by
  unfold letM at h
  repeat' split at h
  all_goals first
    | omega
    | exact absurd rfl h
/-- A code point's own bytes. -/
theorem encR_first {r : Int} (h0 : 0 ≤ r) (h1 : r ≤ 1114111) (hs : ¬ (55296 ≤ r ∧ r ≤ 57343)) : (r < 128 ∧ Lib.encodeRune r = [r.toNat.toUInt8]) ∨ (128 ≤ r ∧ ∀ b ∈ Lib.encodeRune r, 128 ≤ b.toNat) := by
  by_cases h : r < 128
  · left
    exact ⟨h, by unfold Lib.encodeRune; rw [Lib.encodeRuneZ_one h0 (by omega)]; rfl⟩
  · right
    refine ⟨by omega, fun b hb => ?_⟩
    unfold Lib.encodeRune at hb
    obtain ⟨x, hx, rfl⟩ := List.mem_map.1 hb
    by_cases h2 : r ≤ 2047
    · rw [Lib.encodeRuneZ_two (by omega) h2] at hx
      simp at hx
      rcases hx with rfl | rfl <;> (rw [tn _ (by omega) (by omega)]; omega)
    · by_cases h3 : r ≤ 65535
      · rw [Lib.encodeRuneZ_three (by omega)] at hx
        simp at hx
        rcases hx with rfl | rfl | rfl <;> (rw [tn _ (by omega) (by omega)]; omega)
      · rw [Lib.encodeRuneZ_four (by omega) h1] at hx
        simp at hx
        rcases hx with rfl | rfl | rfl | rfl <;> (rw [tn _ (by omega) (by omega)]; omega)
theorem fixr_scalar (r : Int) : 0 ≤ fixr r ∧ fixr r ≤ 1114111 ∧ ¬ (55296 ≤ fixr r ∧ fixr r ≤ 57343) := by
  unfold fixr
  split <;> omega
theorem fixr_same {r : Int} (h0 : 0 ≤ r) (h1 : r ≤ 1114111) (hs : ¬ (55296 ≤ r ∧ r ≤ 57343)) : fixr r = r := by
  unfold fixr
  rw [if_pos (by omega)]
/-- Each code point, as it is told: an escape that is read, or itself. -/
theorem show_back (a t : List UInt8) (r : Int) (h0 : 0 ≤ r) (h1 : r ≤ 1114111) (hs : ¬ (55296 ≤ r ∧ r ≤ 57343)) :
    (byt (showM r) 0 = 92 ∧ 2 ≤ (showM r).length ∧ escM (a ++ showM r ++ t) a.length = (r, ((a.length + (showM r).length : Nat) : Int), 0)) ∨
    (byt (showM r) 0 ≠ 92 ∧ 1 ≤ (showM r).length ∧ showM r = Lib.encodeRune r ∧ printable r = true ∧ r ≠ 34 ∧ r ≠ 92 ∧ r ≠ 10 ∧ r ≠ 9) := by
  have hf := fixr_same h0 h1 hs
  unfold showM
  rw [hf]
  by_cases hl : letM r ≠ []
  · rw [if_pos hl]
    obtain ⟨h2, c, h3, _⟩ := esc_let a t r hl
    left
    exact ⟨by rw [h3]; rfl, by rw [h3]; exact Nat.le_refl _, h2⟩
  · rw [if_neg hl]
    have hl := Classical.not_not.1 hl
    have hne : r ≠ 34 ∧ r ≠ 92 ∧ r ≠ 10 ∧ r ≠ 9 := by
      refine ⟨?_, ?_, ?_, ?_⟩ <;> (rintro rfl; revert hl; decide)
    by_cases hp : printable r = true
    · right
      rw [if_pos hp]
      refine ⟨?_, encR_pos r, rfl, hp, hne⟩
      rcases encR_first h0 h1 hs with ⟨h2, h3⟩ | ⟨h2, h3⟩
      · rw [h3, byt_zero, tn _ h0 (by omega)]
        have := hne.2.1
        omega
      · have hpos := encR_pos r
        cases he : Lib.encodeRune r with
        | nil => rw [he] at hpos; simp at hpos
        | cons b m =>
          rw [he] at h3
          have := h3 b (by simp)
          rw [byt_zero]
          omega
    · left
      rw [if_neg hp]
      obtain ⟨n, rfl⟩ := Int.eq_ofNat_of_zero_le h0
      have hn : scalarN n := ⟨by omega, by omega⟩
      have := esc_coded a t n hn
      refine ⟨?_, ?_, this⟩
      · show byt (codedM n) 0 = 92
        unfold codedM
        split
        · rfl
        · split <;> rfl
      · show 2 ≤ (codedM n).length
        unfold codedM
        split
        · simp
        · split <;> simp
end U
end Go.Proofs.YtjfgcbikdibjeaaGreatDoor

/- Plain laws on escapes: quoted texts. -/
namespace Go.Proofs.YtjfgcbikdibjeaaGreatDoor
namespace U
open Go

def okR (r : Int) : Bool := printable r && decide (r ≠ 10)
def singleM (l : List UInt8) : Bool := decide (place l < 0) && (runes l).all okR
def dbl (l : List UInt8) : List UInt8 := l.flatMap fun b => if b = 39 then [39, 39] else [b]
def showsM (rs : List Int) : List UInt8 := rs.flatMap showM
def quoteM (l : List UInt8) (single : Bool) : List UInt8 := if single && singleM l then [39] ++ dbl l ++ [39] else [34] ++ showsM (runes l) ++ [34]
def quoteQ (l : List UInt8) (single : Bool) : UInt8 := if single && singleM l then 39 else 34
theorem quote_ends (l : List UInt8) (s : Bool) : ∃ m, quoteM l s = [quoteQ l s] ++ m ++ [quoteQ l s] := by
  unfold quoteM quoteQ
  split
  · exact ⟨_, rfl⟩
  · exact ⟨_, rfl⟩
theorem showsM_cons (r : Int) (rs : List Int) : showsM (r :: rs) = showM r ++ showsM rs := by simp [showsM]
theorem dbl_cons (b : UInt8) (l : List UInt8) : dbl (b :: l) = (if b = 39 then [39, 39] else [b]) ++ dbl l := by simp [dbl]
theorem dbl_append (a b : List UInt8) : dbl (a ++ b) = dbl a ++ dbl b := by simp [dbl]
def scalarI (r : Int) : Prop := 0 ≤ r ∧ r ≤ 1114111 ∧ ¬ (55296 ≤ r ∧ r ≤ 57343)
theorem runes_scalar (l : List UInt8) : ∀ r ∈ runes l, scalarI r := by
  intro r hr
  rw [← runes_fix l] at hr
  obtain ⟨x, _, rfl⟩ := List.mem_map.1 hr
  exact fixr_scalar x
/-! ### What is told may be told. -/
theorem ascii_enc : ∀ m : List UInt8, (∀ b ∈ m, b.toNat < 128) → enc (m.map fun b => (b.toNat : Int)) = m := by
  intro m
  induction m with
  | nil => intro _; rfl
  | cons b m ih =>
    intro h
    rw [List.map_cons, enc_cons, ih (fun x hx => h x (by simp [hx]))]
    have hb := h b (by simp)
    have e : Lib.encodeRune (b.toNat : Int) = [b] := by
      unfold Lib.encodeRune
      rw [Lib.encodeRuneZ_one (by omega) (by omega)]
      simp
    rw [e]; rfl
theorem single_enc {xs : List Int} (h : ∀ x ∈ xs, scalarI x ∧ okR x = true) : singleM (enc xs) = true := by
  unfold singleM
  rw [place_enc, runes_enc, Bool.and_eq_true]
  refine ⟨by decide, List.all_eq_true.2 fun y hy => ?_⟩
  obtain ⟨x, hx, rfl⟩ := List.mem_map.1 hy
  obtain ⟨⟨h0, h1, h2⟩, h3⟩ := h x hx
  rw [fixr_same h0 h1 h2]
  exact h3
/-- What is told in ASCII. -/
theorem plain_ok : ∀ b : UInt8, 32 ≤ b.toNat → b.toNat ≤ 126 → scalarI (b.toNat : Int) ∧ okR (b.toNat : Int) = true := by
  intro b h1 h2
  refine ⟨⟨by omega, by omega, by omega⟩, ?_⟩
  unfold okR printable
  rw [Bool.and_eq_true]
  exact ⟨decide_eq_true (by omega), decide_eq_true (by omega)⟩
theorem hexC_plain : ∀ d, d < 16 → 48 ≤ (hexC d).toNat ∧ (hexC d).toNat ≤ 102 := by decide
theorem hexE_plain : ∀ (k n : Nat), ∀ b ∈ hexE k n, 32 ≤ b.toNat ∧ b.toNat ≤ 126 := by
  intro k
  induction k with
  | zero => intro n b hb; cases hb
  | succ k ih =>
    intro n b hb
    rw [hexE] at hb
    rcases List.mem_append.1 hb with hb | hb
    · exact ih _ b hb
    · obtain rfl : b = hexC (n % 16) := by simpa using hb
      have := hexC_plain (n % 16) (by omega)
      omega
theorem coded_plain (n : Nat) : ∀ b ∈ codedM n, 32 ≤ b.toNat ∧ b.toNat ≤ 126 := by
  have key : ∀ (c : UInt8) (k : Nat), 32 ≤ c.toNat → c.toNat ≤ 126 → ∀ b ∈ [92, c] ++ hexE k n, 32 ≤ b.toNat ∧ b.toNat ≤ 126 := by
    intro c k h1 h2 b hb
    rcases List.mem_append.1 hb with hb | hb
    · rcases List.mem_cons.1 hb with rfl | hb
      · decide
      · obtain rfl : b = c := by simpa using hb
        exact ⟨h1, h2⟩
    · exact hexE_plain k n b hb
  unfold codedM
  split
  · exact key 120 2 (by decide) (by decide)
  · split
    · exact key 117 4 (by decide) (by decide)
    · exact key 85 8 (by decide) (by decide)
theorem let_plain (r : Int) : ∀ b ∈ letM r, 32 ≤ b.toNat ∧ b.toNat ≤ 126 := by
  unfold letM
  repeat' split
  all_goals decide
theorem show_enc (r : Int) (hr : scalarI r) : ∃ xs, showM r = enc xs ∧ ∀ x ∈ xs, scalarI x ∧ okR x = true := by
  have key : ∀ m : List UInt8, (∀ b ∈ m, 32 ≤ b.toNat ∧ b.toNat ≤ 126) → ∃ xs, m = enc xs ∧ ∀ x ∈ xs, scalarI x ∧ okR x = true := by
    intro m hm
    refine ⟨_, (ascii_enc m (fun b hb => by have := hm b hb; omega)).symm, fun x hx => ?_⟩
    obtain ⟨b, hb, rfl⟩ := List.mem_map.1 hx
    exact plain_ok b (hm b hb).1 (hm b hb).2
  have hf := fixr_same hr.1 hr.2.1 hr.2.2
  unfold showM
  rw [hf]
  by_cases hl : letM r ≠ []
  · rw [if_pos hl]; exact key _ (let_plain r)
  · rw [if_neg hl]
    have hl := Classical.not_not.1 hl
    by_cases hp : printable r = true
    · rw [if_pos hp]
      refine ⟨[r], by simp [enc], fun x hx => ?_⟩
      obtain rfl : x = r := by simpa using hx
      refine ⟨hr, ?_⟩
      unfold okR
      rw [hp]
      have : x ≠ 10 := by rintro rfl; revert hl; decide
      simp [this]
    · rw [if_neg hp]; exact key _ (coded_plain _)
theorem shows_enc : ∀ rs : List Int, (∀ r ∈ rs, scalarI r) → ∃ xs, showsM rs = enc xs ∧ ∀ x ∈ xs, scalarI x ∧ okR x = true := by
  intro rs
  induction rs with
  | nil => intro _; exact ⟨[], rfl, by simp⟩
  | cons r rs ih =>
    intro h
    obtain ⟨xs, h1, h2⟩ := show_enc r (h r (by simp))
    obtain ⟨ys, h3, h4⟩ := ih (fun x hx => h x (by simp [hx]))
    refine ⟨xs ++ ys, by rw [showsM_cons, enc_append, h1, h3], fun x hx => ?_⟩
    rcases List.mem_append.1 hx with hx | hx
    · exact h2 x hx
    · exact h4 x hx
theorem dbl_id : ∀ {m : List UInt8}, (∀ b ∈ m, b ≠ 39) → dbl m = m := by
  intro m
  induction m with
  | nil => intro _; rfl
  | cons b m ih =>
    intro h
    rw [dbl_cons, if_neg (h b (by simp)), ih (fun x hx => h x (by simp [hx]))]; rfl
theorem dbl_enc : ∀ rs : List Int, (∀ r ∈ rs, scalarI r ∧ okR r = true) → ∃ xs, dbl (enc rs) = enc xs ∧ ∀ x ∈ xs, scalarI x ∧ okR x = true := by
  intro rs
  induction rs with
  | nil => intro _; exact ⟨[], rfl, by simp⟩
  | cons r rs ih =>
    intro h
    obtain ⟨hr, ho⟩ := h r (by simp)
    obtain ⟨ys, h3, h4⟩ := ih (fun x hx => h x (by simp [hx]))
    have hone : dbl (Lib.encodeRune r) = enc (if r = 39 then [39, 39] else [r]) := by
      by_cases h39 : r = 39
      · subst h39; rfl
      · rw [if_neg h39, dbl_id, show enc [r] = Lib.encodeRune r by simp [enc]]
        intro b hb hb39
        subst hb39
        rcases encR_first hr.1 hr.2.1 hr.2.2 with ⟨h1, h2⟩ | ⟨h1, h2⟩
        · rw [h2] at hb
          have hb : (39 : UInt8) = r.toNat.toUInt8 := by simpa using hb
          have := congrArg UInt8.toNat hb
          rw [tn _ hr.1 (by omega)] at this
          exact h39 (by have e : (39 : UInt8).toNat = 39 := rfl; omega)
        · have := h2 39 hb
          revert this; decide
    refine ⟨(if r = 39 then [39, 39] else [r]) ++ ys, by rw [enc_cons, dbl_append, enc_append, hone, h3], fun x hx => ?_⟩
    rcases List.mem_append.1 hx with hx | hx
    · split at hx
      · obtain rfl : x = 39 := by simpa using hx
        exact plain_ok 39 (by decide) (by decide)
      · obtain rfl : x = r := by simpa using hx
        exact ⟨hr, ho⟩
    · exact h4 x hx
/-- A quoted text may be told, in one row. -/
theorem quote_single (l : List UInt8) (s : Bool) : singleM (quoteM l s) = true := by
  have hq : ∀ q : UInt8, q = 39 ∨ q = 34 → ∀ xs : List Int, (∀ x ∈ xs, scalarI x ∧ okR x = true) → singleM ([q] ++ enc xs ++ [q]) = true := by
    intro q hq xs hx
    have e : [q] ++ enc xs ++ [q] = enc ([(q.toNat : Int)] ++ xs ++ [(q.toNat : Int)]) := by
      rw [enc_append, enc_append]
      have : enc [(q.toNat : Int)] = [q] := ascii_enc [q] (by rcases hq with rfl | rfl <;> decide)
      rw [this]
    rw [e]
    have hqo := plain_ok q (by rcases hq with rfl | rfl <;> decide) (by rcases hq with rfl | rfl <;> decide)
    refine single_enc fun x hx2 => ?_
    rcases List.mem_append.1 hx2 with h | h
    · rcases List.mem_append.1 h with h | h
      · obtain rfl : x = (q.toNat : Int) := by simpa using h
        exact hqo
      · exact hx x h
    · obtain rfl : x = (q.toNat : Int) := by simpa using h
      exact hqo
  unfold quoteM
  split
  · rename_i h
    rw [Bool.and_eq_true] at h
    have hs := h.2
    unfold singleM at hs
    rw [Bool.and_eq_true] at hs
    have hp : place l = -1 := by have := place_ge l; have h1 := of_decide_eq_true hs.1; omega
    have he := enc_runes hp
    obtain ⟨xs, h1, h2⟩ := dbl_enc (runes l) (fun r hr => ⟨runes_scalar l r hr, List.all_eq_true.1 hs.2 r hr⟩)
    rw [he] at h1
    rw [h1]
    exact hq 39 (.inl rfl) xs h2
  · obtain ⟨xs, h1, h2⟩ := shows_enc (runes l) (runes_scalar l)
    rw [h1]
    exact hq 34 (.inr rfl) xs h2
/-! ### Each other quote is told. -/
/-- From a place on, within double quotes. -/
def GoodD (t : List UInt8) (i : Nat) : Prop := ∃ (mid : List UInt8) (rs : List Int), t.drop i = mid ++ showsM rs ++ [34] ∧ (∀ b ∈ mid, b ≠ 34 ∧ b ≠ 92) ∧ (∀ r ∈ rs, scalarI r)
theorem good_start (l : List UInt8) (s : Bool) (h : (s && singleM l) = false) : GoodD (quoteM l s) 1 := by
  refine ⟨[], runes l, ?_, by simp, runes_scalar l⟩
  unfold quoteM
  rw [h]
  rfl
theorem good_len {t : List UInt8} {i : Nat} (h : GoodD t i) : i < t.length := by
  obtain ⟨mid, rs, h1, _⟩ := h
  rcases Nat.lt_or_ge i t.length with h2 | h2
  · exact h2
  · rw [List.drop_eq_nil_of_le h2] at h1
    have := congrArg List.length h1
    simp at this
theorem good_step {t : List UInt8} {i : Nat} (h : GoodD t i) (hi : i + 1 < t.length) :
    (byt t i = 92 ∧ ∃ (v : Int) (n : Nat), escM t i = (v, (n : Int), 0) ∧ i < n ∧ n < t.length ∧ GoodD t n) ∨ (byt t i ≠ 92 ∧ byt t i ≠ 34 ∧ GoodD t (i + 1)) := by
  obtain ⟨mid, rs, h1, h2, h3⟩ := h
  have hb : byt t i = byt (mid ++ showsM rs ++ [34]) 0 := by rw [← h1, byt_drop, Nat.add_zero]
  cases mid with
  | cons b mid =>
    right
    obtain ⟨h4, h5⟩ := h2 b (by simp)
    have e : byt t i = b.toNat := by rw [hb]; rfl
    refine ⟨?_, ?_, mid, rs, ?_, fun x hx => h2 x (by simp [hx]), h3⟩
    · rw [e]; exact fun h => h5 (UInt8.toNat.inj h)
    · rw [e]; exact fun h => h4 (UInt8.toNat.inj h)
    · rw [← List.drop_drop, h1]; rfl
  | nil =>
    cases rs with
    | nil =>
      exfalso
      have := congrArg List.length h1
      rw [List.length_drop] at this
      simp [showsM] at this
      omega
    | cons r rs =>
      have hr := h3 r (by simp)
      have hta : t = t.take i ++ (showM r ++ (showsM rs ++ [34])) := by
        have e := (List.take_append_drop i t).symm
        rw [h1] at e
        rw [showsM_cons] at e
        simpa using e
      have htl : (t.take i).length = i := by rw [List.length_take]; omega
      have hd : t.drop i = showM r ++ (showsM rs ++ [34]) := by rw [h1, showsM_cons]; simp
      have hb0 : byt t i = byt (showM r ++ (showsM rs ++ [34])) 0 := by rw [← hd, byt_drop, Nat.add_zero]
      rcases show_back (t.take i) (showsM rs ++ [34]) r hr.1 hr.2.1 hr.2.2 with ⟨g1, g2, g3⟩ | ⟨g1, g2, g3, g4, g5, g6, _⟩
      · left
        rw [List.append_assoc, ← hta, htl] at g3
        refine ⟨?_, r, i + (showM r).length, g3, by omega, ?_, [], rs, ?_, by simp, fun x hx => h3 x (by simp [hx])⟩
        · rw [hb0, byt_append_left _ _ _ (by omega)]; exact g1
        · have := congrArg List.length hd
          rw [List.length_drop] at this
          simp at this
          omega
        · rw [← List.drop_drop, hd, List.drop_left]; rfl
      · right
        obtain ⟨b, m, hm⟩ : ∃ b m, showM r = b :: m := by
          cases hs : showM r with
          | nil => rw [hs] at g2; simp at g2
          | cons b m => exact ⟨b, m, rfl⟩
        have hall : ∀ x ∈ showM r, x ≠ 34 ∧ x ≠ 92 := by
          intro x hx
          rw [g3] at hx
          rcases encR_first hr.1 hr.2.1 hr.2.2 with ⟨k1, k2⟩ | ⟨k1, k2⟩
          · rw [k2] at hx
            obtain rfl : x = r.toNat.toUInt8 := by simpa using hx
            have ht := tn r hr.1 (by omega)
            constructor
            · intro he
              have := congrArg UInt8.toNat he
              rw [ht] at this
              have e : (34 : UInt8).toNat = 34 := rfl
              exact g5 (by omega)
            · intro he
              have := congrArg UInt8.toNat he
              rw [ht] at this
              have e : (92 : UInt8).toNat = 92 := rfl
              exact g6 (by omega)
          · have := k2 x hx
            constructor <;> (rintro rfl; revert this; decide)
        rw [hm] at hd hall hb0
        obtain ⟨h4, h5⟩ := hall b (by simp)
        have e : byt t i = b.toNat := by rw [hb0]; rfl
        refine ⟨?_, ?_, m, rs, ?_, fun x hx => hall x (by simp [hx]), fun x hx => h3 x (by simp [hx])⟩
        · rw [e]; exact fun h => h5 (UInt8.toNat.inj h)
        · rw [e]; exact fun h => h4 (UInt8.toNat.inj h)
        · rw [← List.drop_drop, hd]; simp
/-- From a place on, within single quotes. -/
def GoodS (t : List UInt8) (i : Nat) : Prop := ∃ m : List UInt8, t.drop i = dbl m ++ [39]
theorem goods_start (l : List UInt8) (s : Bool) (h : (s && singleM l) = true) : GoodS (quoteM l s) 1 := by
  refine ⟨l, ?_⟩
  unfold quoteM
  rw [h]
  rfl
theorem goods_step {t : List UInt8} {i : Nat} (h : GoodS t i) (hi : i + 1 < t.length) :
    (byt t i = 39 ∧ i + 2 < t.length ∧ byt t (i + 1) = 39 ∧ GoodS t (i + 2)) ∨ (byt t i ≠ 39 ∧ GoodS t (i + 1)) := by
  obtain ⟨m, h1⟩ := h
  cases m with
  | nil =>
    exfalso
    have := congrArg List.length h1
    rw [List.length_drop] at this
    simp [dbl] at this
    omega
  | cons b m =>
    rw [dbl_cons] at h1
    by_cases h39 : b = 39
    · left
      rw [if_pos h39] at h1
      have hl := congrArg List.length h1
      rw [List.length_drop] at hl
      simp at hl
      refine ⟨?_, by omega, ?_, m, ?_⟩
      · have := byt_drop t i 0; rw [h1, Nat.add_zero] at this; exact this.symm
      · have := byt_drop t i 1; rw [h1] at this; exact this.symm
      · rw [← List.drop_drop, h1]; rfl
    · right
      rw [if_neg h39] at h1
      refine ⟨?_, m, ?_⟩
      · have := byt_drop t i 0
        rw [h1, Nat.add_zero] at this
        rw [← this]
        exact fun h => h39 (UInt8.toNat.inj h)
      · rw [← List.drop_drop, h1]; rfl
theorem goods_len {t : List UInt8} {i : Nat} (h : GoodS t i) : i < t.length := by
  obtain ⟨m, h1⟩ := h
  rcases Nat.lt_or_ge i t.length with h2 | h2
  · exact h2
  · rw [List.drop_eq_nil_of_le h2] at h1
    have := congrArg List.length h1
    simp at this
theorem show_le (r : Int) : (showM r).length ≤ 10 := by
  unfold showM
  split
  · unfold letM
    repeat' split
    all_goals decide
  · split
    · have := encR_le (fixr r); omega
    · unfold codedM
      split
      · simp [hexE_length]
      · split <;> simp [hexE_length]
theorem shows_le (rs : List Int) : (showsM rs).length ≤ 10 * rs.length := by
  induction rs with
  | nil => simp [showsM]
  | cons r rs ih =>
    rw [showsM_cons, List.length_append, List.length_cons]
    have := show_le r
    omega
theorem dbl_le (l : List UInt8) : (dbl l).length ≤ 2 * l.length := by
  induction l with
  | nil => simp [dbl]
  | cons b l ih =>
    rw [dbl_cons, List.length_append, List.length_cons]
    split <;> simp <;> omega
theorem quote_le (l : List UInt8) (s : Bool) : (quoteM l s).length ≤ 10 * l.length + 2 := by
  unfold quoteM
  split
  · have := dbl_le l; simp; omega
  · have := shows_le (runes l)
    rw [runes_length] at this
    have := width_le l
    simp; omega
end U
end Go.Proofs.YtjfgcbikdibjeaaGreatDoor

/- Plain laws on what plain scalars are (chapter 8). No program in sight. -/
namespace Go.Proofs.YtjfgcbikdibjeaaGreatDoor
namespace U
open Go

def dec10 (b : UInt8) : Bool := decide (48 ≤ b.toNat ∧ b.toNat ≤ 57)
def oct8 (b : UInt8) : Bool := decide (48 ≤ b.toNat ∧ b.toNat ≤ 55)
def hex16 (b : UInt8) : Bool := decide ((48 ≤ b.toNat ∧ b.toNat ≤ 57) ∨ (97 ≤ b.toNat ∧ b.toNat ≤ 102) ∨ (65 ≤ b.toNat ∧ b.toNat ≤ 70))
/-- Bytes of some kind, one at least. -/
def allOf (p : UInt8 → Bool) (l : List UInt8) : Bool := !l.isEmpty && l.all p
/-- Without a sign at its beginning. -/
def unsign : List UInt8 → List UInt8
  | [] => []
  | b :: t => if b = 43 ∨ b = 45 then t else b :: t
/-- A power, or none: what is told then; 0: neither. -/
def expo (k : Nat) : List UInt8 → Nat
  | [] => k
  | b :: t => if b = 101 ∨ b = 69 then (if allOf dec10 (unsign t) = true then 2 else 0) else 0
/-- Is it a number without a sign: 1 whole, 2 with a point or a power; 0: none. -/
def numR (a : Bool) : List UInt8 → Nat
  | [] => if a then 0 else 1
  | b :: t => if b = 46 then (if a && (t.takeWhile dec10).isEmpty then 0 else expo 2 (t.dropWhile dec10)) else if a then 0 else expo 1 (b :: t)
def num (t : List UInt8) : Nat := numR (t.takeWhile dec10).isEmpty (t.dropWhile dec10)

def nulls : List (List UInt8) := [[], [110, 117, 108, 108], [78, 117, 108, 108], [78, 85, 76, 76], [126]]
def bools : List (List UInt8) := [[116, 114, 117, 101], [84, 114, 117, 101], [84, 82, 85, 69], [102, 97, 108, 115, 101], [70, 97, 108, 115, 101], [70, 65, 76, 83, 69]]
def nans : List (List UInt8) := [[46, 110, 97, 110], [46, 78, 97, 78], [46, 78, 65, 78]]
def infs : List (List UInt8) := [[46, 105, 110, 102], [46, 73, 110, 102], [46, 73, 78, 70]]
def wNull : List UInt8 := [110, 117, 108, 108]
def wBool : List UInt8 := [98, 111, 111, 108]
def wInt : List UInt8 := [105, 110, 116]
def wFloat : List UInt8 := [102, 108, 111, 97, 116]
def wStr : List UInt8 := [115, 116, 114]
/-- tag:yaml.org,2002: -/
def house : List UInt8 := [116, 97, 103, 58, 121, 97, 109, 108, 46, 111, 114, 103, 44, 50, 48, 48, 50, 58]
def longOf (w : List UInt8) : List UInt8 := house ++ w

def pre2 (a b : UInt8) (l : List UInt8) : Bool := [a, b].isPrefixOf l
/-- Whether a text is whole, as the program asks. -/
def wholeB (s : List UInt8) : Bool :=
  if pre2 48 111 s then allOf oct8 (s.drop 2) else if pre2 48 120 s then allOf hex16 (s.drop 2) else allOf dec10 (unsign s)
def floatB (s : List UInt8) : Bool := infs.contains (unsign s) || num (unsign s) != 0
/-- What a plain scalar is, in the program's order. -/
def coreP (s : List UInt8) : List UInt8 :=
  if nulls.contains s then wNull else if bools.contains s then wBool else if wholeB s then wInt else if floatB s then wFloat else if nans.contains s then wFloat else wStr
def basesR (s : List UInt8) : Bool := (pre2 48 111 s && allOf oct8 (s.drop 2)) || (pre2 48 120 s && allOf hex16 (s.drop 2))
def restR (s : List UInt8) : List UInt8 :=
  if infs.contains (unsign s) then wFloat else if num (unsign s) = 1 then wInt else if num (unsign s) = 2 then wFloat else wStr
/-- What a plain scalar is, in the document's order. -/
def coreR (s : List UInt8) : List UInt8 :=
  if nulls.contains s then wNull else if bools.contains s then wBool else if nans.contains s then wFloat else if basesR s then wInt else restR s

theorem expo_nil (k : Nat) : expo k [] = k := rfl
theorem expo_cons (k : Nat) (b : UInt8) (t : List UInt8) : expo k (b :: t) = if b = 101 ∨ b = 69 then (if allOf dec10 (unsign t) = true then 2 else 0) else 0 := rfl
theorem expo_le (k : Nat) (l : List UInt8) : expo k l = 0 ∨ (expo k l = k ∧ l = []) ∨ expo k l = 2 := by
  cases l with
  | nil => exact .inr (.inl ⟨rfl, rfl⟩)
  | cons b t =>
    rw [expo_cons]
    split
    · split
      · exact .inr (.inr rfl)
      · exact .inl rfl
    · exact .inl rfl
theorem numR_nil (a : Bool) : numR a [] = if a then 0 else 1 := rfl
theorem numR_cons (a : Bool) (b : UInt8) (t : List UInt8) : numR a (b :: t) = if b = 46 then (if a && (t.takeWhile dec10).isEmpty then 0 else expo 2 (t.dropWhile dec10)) else if a then 0 else expo 1 (b :: t) := rfl
theorem numR_cases (a : Bool) (r : List UInt8) : numR a r = 0 ∨ (numR a r = 1 ∧ r = [] ∧ a = false) ∨ numR a r = 2 := by
  cases r with
  | nil => cases a <;> simp [numR_nil]
  | cons b u =>
    rw [numR_cons]
    split
    · split
      · exact .inl rfl
      · rcases expo_le 2 (u.dropWhile dec10) with h | h | h
        · exact .inl h
        · exact .inr (.inr h.1)
        · exact .inr (.inr h)
    · split
      · exact .inl rfl
      · rcases expo_le 1 (b :: u) with h | h | h
        · exact .inl h
        · exact absurd h.2 (by simp)
        · exact .inr (.inr h)
theorem num_cases (t : List UInt8) : num t = 0 ∨ num t = 1 ∨ num t = 2 := by
  unfold num
  rcases numR_cases (t.takeWhile dec10).isEmpty (t.dropWhile dec10) with h | h | h
  · exact .inl h
  · exact .inr (.inl h.1)
  · exact .inr (.inr h)
theorem dropWhile_nil_iff (p : UInt8 → Bool) (l : List UInt8) : l.dropWhile p = [] ↔ l.all p = true := by
  induction l with
  | nil => simp
  | cons b t ih =>
    by_cases h : p b
    · simp [h, ih]
    · simp [h]
theorem takeWhile_nil_of (p : UInt8 → Bool) (l : List UInt8) (h : l.all p = true) : l.takeWhile p = l := by
  induction l with
  | nil => rfl
  | cons b t ih =>
    simp at h
    simp [h.1]
    exact ih (by simpa using h.2)
theorem num_one (t : List UInt8) : num t = 1 ↔ allOf dec10 t = true := by
  unfold num allOf
  constructor
  · intro h
    rcases numR_cases (t.takeWhile dec10).isEmpty (t.dropWhile dec10) with h' | h' | h'
    · omega
    · have ha := (dropWhile_nil_iff dec10 t).1 h'.2.1
      have h2 := h'.2.2
      rw [takeWhile_nil_of _ _ ha] at h2
      rw [h2, ha]
      rfl
    · omega
  · intro h
    simp only [Bool.and_eq_true] at h
    rw [(dropWhile_nil_iff dec10 t).2 h.2, takeWhile_nil_of _ _ h.2]
    cases t with
    | nil => simp at h
    | cons b u => rfl
theorem pre2_form {a b : UInt8} {l : List UInt8} (h : pre2 a b l = true) : ∃ t, l = a :: b :: t := by
  obtain ⟨t, ht⟩ := List.isPrefixOf_iff_prefix.1 h
  exact ⟨t, ht.symm⟩
theorem inf_no_whole (t : List UInt8) (h : infs.contains t = true) : num t ≠ 1 := by
  have hall : ∀ x ∈ infs, num x ≠ 1 := by decide
  exact hall t (by simpa using h)
theorem num_base (c : UInt8) (hc : dec10 c = false) (h46 : c ≠ 46) (he : c ≠ 101 ∧ c ≠ 69) (t : List UInt8) : num (unsign (48 :: c :: t)) = 0 ∧ infs.contains (unsign (48 :: c :: t)) = false := by
  have hu : unsign (48 :: c :: t) = 48 :: c :: t := by simp [unsign]
  rw [hu]
  constructor
  · have h1 : (48 :: c :: t).takeWhile dec10 = [48] := by simp [hc, show dec10 48 = true by decide]
    have h2 : (48 :: c :: t).dropWhile dec10 = c :: t := by simp [hc, show dec10 48 = true by decide]
    unfold num
    rw [h1, h2]
    simp [numR, h46, expo, he]
  · simp [infs]
theorem core_eq (s : List UInt8) : coreP s = coreR s := by
  unfold coreP coreR
  split
  · rfl
  split
  · rfl
  by_cases hn : nans.contains s = true
  · rw [if_pos hn, if_pos hn]
    have hall : ∀ x ∈ nans, (if wholeB x then wInt else if floatB x then wFloat else wFloat) = wFloat := by decide
    exact hall s (by simpa using hn)
  rw [if_neg hn, if_neg hn]
  unfold wholeB basesR restR floatB
  by_cases ho : pre2 48 111 s = true
  · obtain ⟨t, rfl⟩ := pre2_form ho
    obtain ⟨h1, h2⟩ := num_base 111 (by decide) (by decide) (by decide) t
    rw [if_pos ho, ho, h1, h2]
    have hx : pre2 48 120 (48 :: 111 :: t) = false := by simp [pre2, List.isPrefixOf]
    rw [hx]
    cases allOf oct8 ((48 :: 111 :: t).drop 2) <;> simp
  · rw [if_neg ho]
    rw [Bool.not_eq_true] at ho
    rw [ho]
    by_cases hx : pre2 48 120 s = true
    · obtain ⟨t, rfl⟩ := pre2_form hx
      obtain ⟨h1, h2⟩ := num_base 120 (by decide) (by decide) (by decide) t
      rw [if_pos hx, hx, h1, h2]
      cases allOf hex16 ((48 :: 120 :: t).drop 2) <;> simp
    · rw [if_neg hx]
      rw [Bool.not_eq_true] at hx
      rw [hx]
      simp only [Bool.false_and, Bool.or_false, Bool.false_eq_true, if_false]
      have h1 := num_one (unsign s)
      have h2 := num_cases (unsign s)
      have h3 := inf_no_whole (unsign s)
      cases hi : infs.contains (unsign s) with
      | true =>
        have h4 := h3 hi
        rw [if_neg (fun h => h4 (h1.2 h))]
        simp
      | false =>
        rcases h2 with h2 | h2 | h2
        · rw [if_neg (fun h => by have := h1.2 h; omega), h2]; rfl
        · rw [if_pos (h1.1 h2), h2]; rfl
        · rw [if_neg (fun h => by have := h1.2 h; omega), h2]; rfl
end U
end Go.Proofs.YtjfgcbikdibjeaaGreatDoor

/- Plain laws on how a scalar is told: what may stand plain, what may stand in rows, which style. -/
namespace Go.Proofs.YtjfgcbikdibjeaaGreatDoor
namespace U
open Go

/-! ### Plain scalars. -/
def stopsN (l : List UInt8) (p : Nat) (flow : Bool) : Bool := endsM l (p + 1) || (flow && flowN (byt l (p + 1)))
def indN (b : Nat) : Bool := decide (b = 45 ∨ b = 63 ∨ b = 58 ∨ b = 35 ∨ b = 38 ∨ b = 42 ∨ b = 33 ∨ b = 124 ∨ b = 62 ∨ b = 39 ∨ b = 34 ∨ b = 37 ∨ b = 64 ∨ b = 96) || flowN b
def beginsM (l : List UInt8) (p : Nat) (flow : Bool) : Bool := !endsM l p && (if byt l p = 45 ∨ byt l p = 63 ∨ byt l p = 58 then !stopsN l p flow else !indN (byt l p))
def cutsN (l : List UInt8) (p : Nat) (flow : Bool) : Bool := if byt l p = 35 then decide (0 < p) && whN (byt l (p - 1)) else if byt l p = 58 then stopsN l p flow else flow && flowN (byt l p)
/-- The first place from one on, and ahead of another, at which a part ends. -/
def partF (l : List UInt8) (flow : Bool) : Nat → Nat → Nat
  | 0, p => p
  | f + 1, p => if cutsN l p flow = true then p else partF l flow f (p + 1)
/-- Back over White. -/
def trimB (l : List UInt8) (a : Nat) : Nat → Nat
  | 0 => a
  | k + 1 => if whN (byt l (a + k)) = true then trimB l a k else a + k + 1
def partM (l : List UInt8) (p : Nat) (flow : Bool) : Nat := if p < l.length then trimB l p (partF l flow (rowTo l p - p) p - p) else p
def toldP (l : List UInt8) : Bool := (runes l).all printable && decide (place l < 0)
def preN (l : List UInt8) (c : Nat) : Bool := decide (3 ≤ l.length ∧ byt l 0 = c ∧ byt l 1 = c ∧ byt l 2 = c)
def plainM (l : List UInt8) (flow : Bool) : Bool :=
  beginsM l 0 flow && decide (partM l 0 flow = l.length) && (l.all fun b => decide (b ≠ 9 ∧ b ≠ 10)) && toldP l && !preN l 45 && !preN l 46
theorem partF_le (l : List UInt8) (flow : Bool) : ∀ f p, p ≤ partF l flow f p ∧ partF l flow f p ≤ p + f := by
  intro f
  induction f with
  | zero => intro p; exact ⟨Nat.le_refl _, Nat.le_refl _⟩
  | succ f ih =>
    intro p
    rw [partF]
    split
    · omega
    · have := ih (p + 1); omega
theorem trimB_le (l : List UInt8) (a : Nat) : ∀ k, a ≤ trimB l a k ∧ trimB l a k ≤ a + k := by
  intro k
  induction k with
  | zero => exact ⟨Nat.le_refl _, Nat.le_refl _⟩
  | succ k ih =>
    rw [trimB]
    split
    · omega
    · omega
theorem partM_le {l : List UInt8} {p : Nat} {flow : Bool} : p ≤ partM l p flow ∧ partM l p flow ≤ rowTo l p := by
  have hr := rowTo_ge l p
  unfold partM
  split
  · have h1 := partF_le l flow (rowTo l p - p) p
    have h2 := trimB_le l p (partF l flow (rowTo l p - p) p - p)
    omega
  · omega
/-! ### Rows as they are. -/
def splitB : List UInt8 → List UInt8 → List (List UInt8)
  | cur, [] => [cur]
  | cur, b :: t => if b = 10 then cur :: splitB [] t else splitB (cur ++ [b]) t
def trimLF (l : List UInt8) : List UInt8 := if l.getLast? = some 10 then l.dropLast else l
def rowsL (l : List UInt8) : List (List UInt8) := splitB [] (trimLF l)
def blankR (r : List UInt8) : Bool := !r.isEmpty && r.all wh
def literalM (l : List UInt8) : Bool :=
  !l.isEmpty && !whN (byt l 0) && decide (byt l 0 ≠ 10) && toldP l && (rowsL l).all (fun r => !blankR r) && !((rowsL l).getLast?.getD []).isEmpty
/-! ### Styles. -/
/-- A style: the text, its own style, tag or none; single quotes, bare; in brackets, in one row. -/
def styleM (t : List UInt8) (st : Nat) (tag single bare flow row : Bool) : Nat :=
  if st = 1 ∧ (t = [] ∨ plainM t flow = true) then 1
  else if (st = 4 ∨ st = 5) ∧ row = false ∧ literalM t = true then 4
  else if bare = true ∧ st ≠ 1 ∧ tag = false ∧ plainM t flow = true ∧ coreP t = wStr then 1
  else if single = true ∧ singleM t = true then 2
  else 3
def showP (t : List UInt8) (st : Nat) (tag single bare flow : Bool) : List UInt8 :=
  if styleM t st tag single bare flow true = 1 then t else quoteM t (decide (styleM t st tag single bare flow true = 2))
/-! ### What every program answers. -/
theorem awakeP : plainM [97, 44, 32, 98] false = true ∧ plainM [97, 44, 32, 98] true = false ∧ plainM [97, 58, 32, 98] false = false ∧ literalM [97, 10] = true ∧ literalM [32, 97] = false ∧
    styleM [98] 2 false false false false true = 3 ∧ showP [98] 2 false false true false = [98] := by decide +kernel
/-- PickRows' texts. -/
def rowsText (t : List UInt8) : List (List UInt8) := [t, t ++ [10], t ++ [10, 10] ++ t, t ++ [10, 32] ++ t, t ++ [10, 9] ++ t ++ [10], t ++ [32, 10] ++ t, [35, 32] ++ t, [45, 32] ++ t ++ [10, 45, 45, 45, 10], [], [32] ++ t, [10] ++ t, [9] ++ t, t ++ [10, 10], t ++ [10, 32, 10] ++ t, t ++ [10, 32], t ++ [10, 9], t ++ [1], t ++ [133]]
def wordsP : List (List UInt8) := [[97], [98, 99], [100, 45, 101], [102, 95, 103], [104, 49], [120, 121, 122], [195, 169], [107, 35, 108], [109, 58, 110], [111, 46, 112]]
theorem rowsText_all : ∀ t ∈ wordsP, ∀ k, k < 18 → literalM ((rowsText t).getD k []) = decide (k < 8) ∧ ((rowsText t).getD k []).length ≤ 20 := by decide +kernel
end U
end Go.Proofs.YtjfgcbikdibjeaaGreatDoor

/- Plain laws on numbers' texts. No program in sight. -/
namespace Go.Proofs.YtjfgcbikdibjeaaGreatDoor
namespace U
open Go

theorem num_app {d r : List UInt8} (hd : d.all dec10 = true) (hr : ∀ c t, r = c :: t → dec10 c = false) : num (d ++ r) = numR d.isEmpty r := by
  have h1 : ∀ a ∈ d, dec10 a = true := by simpa using hd
  have h2 : r.takeWhile dec10 = [] := by
    cases r with
    | nil => rfl
    | cons c t => simp [hr c t rfl]
  have h3 : r.dropWhile dec10 = r := by
    cases r with
    | nil => rfl
    | cons c t => simp [hr c t rfl]
  unfold num
  rw [List.takeWhile_append_of_pos h1, List.dropWhile_append_of_pos h1, h2, h3, List.append_nil]
/-- How a number's text begins. -/
def numHead : List UInt8 → Bool
  | [] => false
  | [b] => dec10 b || b == 43 || b == 45
  | b :: c :: _ => dec10 b || b == 43 || b == 45 || (b == 46 && dec10 c)
theorem heads_no : ∀ x ∈ nulls ++ bools ++ nans, numHead x = false := by decide
theorem coreR_head {s : List UInt8} (h : numHead s = true) (hb : basesR s = false) : coreR s = restR s := by
  have hn := heads_no s
  have h1 : nulls.contains s = false := by
    rw [Bool.eq_false_iff]
    intro hh
    have := hn (by simp only [List.mem_append]; exact .inl (.inl (by simpa using hh)))
    rw [this] at h
    cases h
  have h2 : bools.contains s = false := by
    rw [Bool.eq_false_iff]
    intro hh
    have := hn (by simp only [List.mem_append]; exact .inl (.inr (by simpa using hh)))
    rw [this] at h
    cases h
  have h3 : nans.contains s = false := by
    rw [Bool.eq_false_iff]
    intro hh
    have := hn (by simp only [List.mem_append]; exact .inr (by simpa using hh))
    rw [this] at h
    cases h
  unfold coreR
  rw [h1, h2, h3, hb]
  rfl
/-- A sign or none; digits, or a point and a digit; what stands behind. -/
structure Form (sg d r : List UInt8) : Prop where
  sign : sg = [] ∨ sg = [43] ∨ sg = [45]
  digs : d.all dec10 = true
  some' : d ≠ [] ∨ ∃ c t, r = 46 :: c :: t ∧ dec10 c = true
  head : ∀ c t, r = c :: t → dec10 c = false ∧ ((c ≠ 111 ∧ c ≠ 120) ∨ t = [])
theorem dec10_no {b : UInt8} (h : dec10 b = true) : b ≠ 43 ∧ b ≠ 45 ∧ b ≠ 46 ∧ b ≠ 111 ∧ b ≠ 120 ∧ b ≠ 105 ∧ b ≠ 73 := by
  refine ⟨?_, ?_, ?_, ?_, ?_, ?_, ?_⟩ <;> (rintro rfl; revert h; decide)
theorem Form.body {sg d r : List UInt8} (h : Form sg d r) : ∃ b t, d ++ r = b :: t ∧ b ≠ 43 ∧ b ≠ 45 ∧ ((dec10 b = true ∧ d ≠ []) ∨ (b = 46 ∧ ∃ c u, t = c :: u ∧ dec10 c = true)) := by
  cases d with
  | nil =>
    rcases h.some' with hh | ⟨c, t, rfl, hc⟩
    · exact absurd rfl hh
    · exact ⟨46, c :: t, rfl, by decide, by decide, .inr ⟨rfl, c, t, rfl, hc⟩⟩
  | cons b t =>
    have hb : dec10 b = true := by have := h.digs; simp at this; exact this.1
    have := dec10_no hb
    exact ⟨b, t ++ r, rfl, this.1, this.2.1, .inl ⟨hb, by simp⟩⟩
theorem Form.unsign {sg d r : List UInt8} (h : Form sg d r) : unsign (sg ++ (d ++ r)) = d ++ r := by
  obtain ⟨b, t, hbt, h1, h2, _⟩ := h.body
  rcases h.sign with rfl | rfl | rfl
  · rw [hbt]; simp [U.unsign, h1, h2]
  · simp [U.unsign]
  · simp [U.unsign]
theorem Form.numHead {sg d r : List UInt8} (h : Form sg d r) : numHead (sg ++ (d ++ r)) = true := by
  obtain ⟨b, t, hbt, _, _, h3⟩ := h.body
  rw [hbt]
  rcases h.sign with rfl | rfl | rfl
  · rcases h3 with ⟨hb, _⟩ | ⟨rfl, c, u, rfl, hc⟩
    · cases t <;> simp [U.numHead, hb]
    · simp [U.numHead, hc]
  · simp [U.numHead]
  · simp [U.numHead]
theorem Form.bases {sg d r : List UInt8} (h : Form sg d r) : basesR (sg ++ (d ++ r)) = false := by
  have key : ∀ c : UInt8, (c = 111 ∨ c = 120) → ∀ t, sg ++ (d ++ r) = 48 :: c :: t → t = [] := by
    intro c hc t ht
    have hs : sg = [] := by
      rcases h.sign with rfl | rfl | rfl
      · rfl
      · simp at ht
      · simp at ht
    subst hs
    simp only [List.nil_append] at ht
    match d, h.digs, h.some', ht with
    | [], _, h5, ht =>
      rcases h5 with h5 | ⟨e, u, rfl, _⟩
      · exact absurd rfl h5
      · simp at ht
    | [b], _, _, ht =>
      simp only [List.cons_append, List.nil_append, List.cons.injEq] at ht
      have := (h.head c t ht.2).2
      rcases this with ⟨h6, h7⟩ | h6
      · rcases hc with rfl | rfl
        · exact absurd rfl h6
        · exact absurd rfl h7
      · exact h6
    | b :: e :: u, h4, _, ht =>
      exfalso
      simp only [List.cons_append, List.cons.injEq] at ht
      simp at h4
      have := dec10_no h4.2.1
      rw [ht.2.1] at this
      rcases hc with rfl | rfl
      · exact this.2.2.2.1 rfl
      · exact this.2.2.2.2.1 rfl
  unfold basesR
  rw [Bool.or_eq_false_iff]
  constructor
  · cases hp : pre2 48 111 (sg ++ (d ++ r)) with
    | false => rfl
    | true =>
      obtain ⟨t, ht⟩ := pre2_form hp
      have := key 111 (.inl rfl) t ht
      subst this
      rw [ht]
      rfl
  · cases hp : pre2 48 120 (sg ++ (d ++ r)) with
    | false => rfl
    | true =>
      obtain ⟨t, ht⟩ := pre2_form hp
      have := key 120 (.inr rfl) t ht
      subst this
      rw [ht]
      rfl
theorem Form.infs {sg d r : List UInt8} (h : Form sg d r) : infs.contains (d ++ r) = false := by
  obtain ⟨b, t, hbt, _, _, h3⟩ := h.body
  rw [hbt, Bool.eq_false_iff]
  intro hh
  have hm : (b :: t) ∈ U.infs := by simpa using hh
  simp only [U.infs, List.mem_cons, List.cons.injEq, List.not_mem_nil, or_false] at hm
  rcases h3 with ⟨hb, _⟩ | ⟨rfl, c, u, rfl, hc⟩
  · have := dec10_no hb
    rcases hm with h4 | h4 | h4 <;> exact this.2.2.1 h4.1
  · have := dec10_no hc
    simp only [List.cons.injEq] at hm
    rcases hm with h4 | h4 | h4
    · exact this.2.2.2.2.2.1 h4.2.1
    · exact this.2.2.2.2.2.2 h4.2.1
    · exact this.2.2.2.2.2.2 h4.2.1
theorem Form.core {sg d r : List UInt8} (h : Form sg d r) : coreR (sg ++ (d ++ r)) = if numR d.isEmpty r = 1 then wInt else if numR d.isEmpty r = 2 then wFloat else wStr := by
  rw [coreR_head h.numHead h.bases, restR, h.unsign, h.infs, num_app h.digs (fun c t ht => (h.head c t ht).1)]
  rfl
theorem numR_point {a : Bool} {e v : List UInt8} (he : e.all dec10 = true) (hv : ∀ c t, v = c :: t → dec10 c = false) (h : a = false ∨ e ≠ []) : numR a (46 :: (e ++ v)) = expo 2 v := by
  have h1 : ∀ x ∈ e, dec10 x = true := by simpa using he
  have h2 : v.takeWhile dec10 = [] := by
    cases v with
    | nil => rfl
    | cons c t => simp [hv c t rfl]
  have h3 : v.dropWhile dec10 = v := by
    cases v with
    | nil => rfl
    | cons c t => simp [hv c t rfl]
  rw [numR_cons, if_pos rfl, List.takeWhile_append_of_pos h1, List.dropWhile_append_of_pos h1, h2, h3, List.append_nil]
  rw [if_neg]
  intro hh
  rw [Bool.and_eq_true] at hh
  rcases h with h | h
  · rw [h] at hh; exact absurd hh.1 (by decide)
  · cases e with
    | nil => exact h rfl
    | cons x y => exact absurd hh.2 (by simp)
theorem expo_pow {k : Nat} {c : UInt8} (hc : c = 101 ∨ c = 69) {sg d : List UInt8} (hs : sg = [] ∨ sg = [43] ∨ sg = [45]) (hd : d.all dec10 = true) (hne : d ≠ []) : expo k (c :: (sg ++ d)) = 2 ∧ ∀ w : UInt8, dec10 w = false → expo k (c :: (sg ++ d) ++ [w]) = 0 := by
  obtain ⟨b, t, rfl⟩ : ∃ b t, d = b :: t := by
    cases d with
    | nil => exact absurd rfl hne
    | cons b t => exact ⟨b, t, rfl⟩
  have hb : dec10 b = true := by simp at hd; exact hd.1
  have hn := dec10_no hb
  have hu : unsign (sg ++ b :: t) = b :: t := by
    rcases hs with rfl | rfl | rfl <;> simp [unsign, hn]
  constructor
  · rw [expo_cons, if_pos hc, hu, if_pos (by rw [allOf, hd]; rfl)]
  · intro w hw
    have hu2 : unsign (sg ++ b :: t ++ [w]) = b :: (t ++ [w]) := by
      rcases hs with rfl | rfl | rfl <;> simp [unsign, hn]
    rw [List.cons_append, expo_cons, if_pos hc, hu2, if_neg]
    simp [allOf, hw]
theorem expo_none (k : Nat) {w : UInt8} (h : w ≠ 101 ∧ w ≠ 69) : expo k [w] = 0 := by rw [expo_cons, if_neg (fun hh => hh.elim h.1 h.2)]
/-- A sign that stands behind, of no number. -/
def behind (w : UInt8) : Prop := dec10 w = false ∧ w ≠ 101 ∧ w ≠ 69 ∧ w ≠ 46
/-- The seven forms of numbers with a point or a power. -/
def formOf (d : List UInt8) (k : Nat) : List UInt8 :=
  if k = 0 then d ++ [46] else if k = 1 then d ++ 46 :: d else if k = 2 then 46 :: d else if k = 3 then d ++ 101 :: d else if k = 4 then d ++ 46 :: 69 :: 45 :: d else if k = 5 then d ++ 46 :: (d ++ 101 :: 43 :: d) else 46 :: (d ++ [101, 49])
theorem core_digits {sg d : List UInt8} (hs : sg = [] ∨ sg = [43] ∨ sg = [45]) (hd : d.all dec10 = true) (hne : d ≠ []) : coreR (sg ++ d) = wInt ∧ ∀ w : UInt8, behind w → coreR (sg ++ d ++ [w]) = wStr := by
  have he : d.isEmpty = false := by cases d with | nil => exact absurd rfl hne | cons b t => rfl
  constructor
  · have h := (Form.mk (r := []) hs hd (.inl hne) (fun c t ht => by cases ht)).core
    rw [List.append_nil, he] at h
    exact h
  · intro w hw
    have h := (Form.mk (r := [w]) hs hd (.inl hne) (fun c t ht => by cases ht; exact ⟨hw.1, .inr rfl⟩)).core
    rw [he, show numR false [w] = expo 1 [w] by rw [numR_cons, if_neg hw.2.2.2]; rfl, expo_none 1 ⟨hw.2.1, hw.2.2.1⟩] at h
    rw [List.append_assoc]
    exact h
theorem core_formOf {sg d : List UInt8} (hs : sg = [] ∨ sg = [43] ∨ sg = [45]) (hd : d.all dec10 = true) (hne : d ≠ []) (k : Nat) : coreR (sg ++ formOf d k) = wFloat ∧ ∀ w : UInt8, behind w → coreR (sg ++ formOf d k ++ [w]) = wStr := by
  have he : d.isEmpty = false := by cases d with | nil => exact absurd rfl hne | cons b t => rfl
  obtain ⟨b, t, hbt⟩ : ∃ b t, d = b :: t := by cases d with | nil => exact absurd rfl hne | cons b t => exact ⟨b, t, rfl⟩
  have hb : dec10 b = true := by rw [hbt] at hd; simp at hd; exact hd.1
  have key : ∀ (x r : List UInt8), x = d ∨ (x = [] ∧ ∃ u, r = 46 :: (d ++ u)) → (∀ c u, r = c :: u → dec10 c = false ∧ c ≠ 111 ∧ c ≠ 120) → numR x.isEmpty r = 2 → (∀ w, behind w → numR x.isEmpty (r ++ [w]) = 0) → r ≠ [] → coreR (sg ++ (x ++ r)) = wFloat ∧ ∀ w : UInt8, behind w → coreR (sg ++ (x ++ r) ++ [w]) = wStr := by
    intro x r hx hr h2 h0 hrn
    have hxd : x.all dec10 = true := by rcases hx with rfl | ⟨rfl, _⟩; exact hd; rfl
    have hso : ∀ z, x ≠ [] ∨ ∃ c t, r ++ z = 46 :: c :: t ∧ dec10 c = true := by
      intro z
      rcases hx with rfl | ⟨rfl, u, rfl⟩
      · exact .inl hne
      · exact .inr ⟨b, t ++ (u ++ z), by rw [hbt]; simp, hb⟩
    constructor
    · have h := (Form.mk (r := r) hs hxd (by simpa using hso []) (fun c u hc => ⟨(hr c u hc).1, .inl (hr c u hc).2⟩)).core
      rw [h, h2]; rfl
    · intro w hw
      have h := (Form.mk (r := r ++ [w]) hs hxd (hso [w]) (fun c u hc => by
        cases r with
        | nil => exact absurd rfl hrn
        | cons c' r' =>
          simp only [List.cons_append, List.cons.injEq] at hc
          obtain ⟨rfl, _⟩ := hc
          exact ⟨(hr _ _ rfl).1, .inl (hr _ _ rfl).2⟩)).core
      rw [h0 w hw] at h
      rw [List.append_assoc, List.append_assoc]
      exact h
  have hw0 : ∀ w : UInt8, behind w → ∀ c t, [w] = c :: t → dec10 c = false := fun w hw c t h => by cases h; exact hw.1
  unfold formOf
  split
  · refine key d [46] (.inl rfl) (fun c u h => by cases h; decide) ?_ ?_ (by simp)
    · rw [he]; exact numR_point (e := []) (v := []) rfl (fun c t h => by cases h) (.inl rfl)
    · intro w hw
      rw [he]
      exact (numR_point (e := []) (v := [w]) rfl (hw0 w hw) (.inl rfl)).trans (expo_none 2 ⟨hw.2.1, hw.2.2.1⟩)
  split
  · refine key d (46 :: d) (.inl rfl) (fun c u h => by cases h; decide) ?_ ?_ (by simp)
    · rw [he]
      have := numR_point (a := false) (e := d) (v := []) hd (fun c t h => by cases h) (.inl rfl)
      rwa [List.append_nil] at this
    · intro w hw
      rw [he]
      exact (numR_point (e := d) (v := [w]) hd (hw0 w hw) (.inl rfl)).trans (expo_none 2 ⟨hw.2.1, hw.2.2.1⟩)
  split
  · refine key [] (46 :: d) (.inr ⟨rfl, [], by rw [List.append_nil]⟩) (fun c u h => by cases h; decide) ?_ ?_ (by simp)
    · have := numR_point (a := true) (e := d) (v := []) hd (fun c t h => by cases h) (.inr hne)
      rwa [List.append_nil] at this
    · intro w hw
      exact (numR_point (e := d) (v := [w]) hd (hw0 w hw) (.inr hne)).trans (expo_none 2 ⟨hw.2.1, hw.2.2.1⟩)
  split
  · have h := expo_pow (k := 1) (c := 101) (.inl rfl) (sg := []) (.inl rfl) hd hne
    refine key d (101 :: d) (.inl rfl) (fun c u h => by cases h; decide) ?_ ?_ (by simp)
    · rw [he]; exact h.1
    · intro w hw
      rw [he]; exact h.2 w hw.1
  split
  · have h := expo_pow (k := 2) (c := 69) (.inr rfl) (sg := [45]) (.inr (.inr rfl)) hd hne
    have hv : ∀ z c t, 69 :: ([45] ++ d) ++ z = c :: t → dec10 c = false := fun z c t h => by cases h; decide
    refine key d (46 :: 69 :: 45 :: d) (.inl rfl) (fun c u h => by cases h; decide) ?_ ?_ (by simp)
    · rw [he]; exact (numR_point (e := []) (v := 69 :: ([45] ++ d)) rfl (by simpa using hv []) (.inl rfl)).trans h.1
    · intro w hw
      rw [he]; exact (numR_point (e := []) (v := 69 :: ([45] ++ d) ++ [w]) rfl (hv [w]) (.inl rfl)).trans (h.2 w hw.1)
  split
  · have h := expo_pow (k := 2) (c := 101) (.inl rfl) (sg := [43]) (.inr (.inl rfl)) hd hne
    have hv : ∀ z c t, 101 :: ([43] ++ d) ++ z = c :: t → dec10 c = false := fun z c t h => by cases h; decide
    refine key d (46 :: (d ++ 101 :: 43 :: d)) (.inl rfl) (fun c u h => by cases h; decide) ?_ ?_ (by simp)
    · rw [he]; exact (numR_point (e := d) (v := 101 :: ([43] ++ d)) hd (by simpa using hv []) (.inl rfl)).trans h.1
    · intro w hw
      rw [he, show 46 :: (d ++ 101 :: 43 :: d) ++ [w] = 46 :: (d ++ (101 :: ([43] ++ d) ++ [w])) by simp]
      exact (numR_point (e := d) (v := 101 :: ([43] ++ d) ++ [w]) hd (hv [w]) (.inl rfl)).trans (h.2 w hw.1)
  · have h := expo_pow (k := 2) (c := 101) (.inl rfl) (sg := []) (d := [49]) (.inl rfl) (by decide) (by simp)
    have hv : ∀ z c t, 101 :: ([] ++ [49]) ++ z = c :: t → dec10 c = false := fun z c t h => by cases h; decide
    refine key [] (46 :: (d ++ [101, 49])) (.inr ⟨rfl, [101, 49], rfl⟩) (fun c u h => by cases h; decide) ?_ ?_ (by simp)
    · exact (numR_point (e := d) (v := 101 :: ([] ++ [49])) hd (by simpa using hv []) (.inr hne)).trans h.1
    · intro w hw
      rw [show 46 :: (d ++ [101, 49]) ++ [w] = 46 :: (d ++ (101 :: ([] ++ [49]) ++ [w])) by simp]
      exact (numR_point (e := d) (v := 101 :: ([] ++ [49]) ++ [w]) hd (hv [w]) (.inr hne)).trans (h.2 w hw.1)
end U
end Go.Proofs.YtjfgcbikdibjeaaGreatDoor

/- Plain laws on plain scalars: what may stand in brackets; what looks like anything but a text. -/
namespace Go.Proofs.YtjfgcbikdibjeaaGreatDoor
namespace U
open Go

theorem partF_all (l : List UInt8) (flow : Bool) : ∀ f p, partF l flow f p = p + f ↔ ∀ j, p ≤ j → j < p + f → cutsN l j flow = false := by
  intro f
  induction f with
  | zero => intro p; exact ⟨fun _ j h1 h2 => by omega, fun _ => rfl⟩
  | succ f ih =>
    intro p
    rw [partF]
    cases hc : cutsN l p flow with
    | true =>
      rw [if_pos rfl]
      constructor
      · intro h; omega
      · intro h; have := h p (Nat.le_refl _) (by omega); rw [hc] at this; cases this
    | false =>
      rw [if_neg (by decide), show p + (f + 1) = p + 1 + f by omega, ih]
      constructor
      · intro h j h1 h2
        rcases Nat.eq_or_lt_of_le h1 with rfl | h1
        · exact hc
        · exact h j h1 h2
      · intro h j h1 h2
        exact h j (by omega) h2
theorem trimB_all (l : List UInt8) (a : Nat) : ∀ k, trimB l a k = a + k ↔ (k = 0 ∨ whN (byt l (a + k - 1)) = false) := by
  intro k
  cases k with
  | zero => simp [trimB]
  | succ k =>
    rw [trimB, show a + (k + 1) - 1 = a + k by omega]
    cases h : whN (byt l (a + k)) with
    | true =>
      rw [if_pos rfl]
      have := trimB_le l a k
      constructor
      · intro h; omega
      · intro h; rcases h with h | h
        · omega
        · cases h
    | false =>
      rw [if_neg (by decide)]
      exact ⟨fun _ => .inr rfl, fun _ => by omega⟩
/-- What may stand plain, byte by byte. -/
structure IsPlain (l : List UInt8) (flow : Bool) : Prop where
  pos : 0 < l.length
  begin : beginsM l 0 flow = true
  cuts : ∀ j, j < l.length → cutsN l j flow = false
  last : whN (byt l (l.length - 1)) = false
  row : ∀ j, j < l.length → byt l j ≠ 9 ∧ byt l j ≠ 10
  told : toldP l = true
  mark : preN l 45 = false
  dots : preN l 46 = false
theorem all_byt {l : List UInt8} {P : Nat → Prop} [DecidablePred P] : (l.all fun b => decide (P b.toNat)) = true ↔ ∀ j, j < l.length → P (byt l j) := by
  rw [List.all_eq_true]
  constructor
  · intro h j hj
    have := of_decide_eq_true (h (l[j]'hj) (List.getElem_mem hj))
    rw [byt_get l j hj] at this
    exact this
  · intro h b hb
    obtain ⟨j, hj, rfl⟩ := List.mem_iff_getElem.1 hb
    have := h j hj
    rw [← byt_get l j hj] at this
    exact decide_eq_true this
theorem row_byt {l : List UInt8} : (l.all fun b => decide (b ≠ 9 ∧ b ≠ 10)) = true ↔ ∀ j, j < l.length → byt l j ≠ 9 ∧ byt l j ≠ 10 := by
  rw [← all_byt (P := fun n => n ≠ 9 ∧ n ≠ 10)]
  have : ∀ b : UInt8, (b ≠ 9 ∧ b ≠ 10) ↔ (b.toNat ≠ 9 ∧ b.toNat ≠ 10) := by
    intro b
    constructor
    · rintro ⟨h1, h2⟩
      exact ⟨fun h => h1 (UInt8.toNat_inj.1 h), fun h => h2 (UInt8.toNat_inj.1 h)⟩
    · rintro ⟨h1, h2⟩
      exact ⟨fun h => h1 (by rw [h]; rfl), fun h => h2 (by rw [h]; rfl)⟩
  simp only [this]
theorem part_whole {l : List UInt8} {flow : Bool} (hp : 0 < l.length) (hr : ∀ j, j < l.length → byt l j ≠ 9 ∧ byt l j ≠ 10) : partM l 0 flow = l.length ↔ (∀ j, j < l.length → cutsN l j flow = false) ∧ whN (byt l (l.length - 1)) = false := by
  have hto : rowTo l 0 = l.length := rowTo_is (Nat.zero_le _) (Nat.le_refl _) (.inl rfl) (fun j _ h => (hr j h).2)
  unfold partM
  rw [if_pos hp, hto, Nat.sub_zero, Nat.sub_zero]
  have hle := partF_le l flow l.length 0
  have htl := trimB_le l 0 (partF l flow l.length 0)
  constructor
  · intro h
    have he : partF l flow l.length 0 = 0 + l.length := by omega
    rw [he] at h
    refine ⟨fun j hj => (partF_all l flow l.length 0).1 he j (Nat.zero_le _) (by omega), ?_⟩
    have := (trimB_all l 0 (0 + l.length)).1 (by omega)
    rw [show 0 + (0 + l.length) - 1 = l.length - 1 by omega] at this
    rcases this with h0 | h0
    · omega
    · exact h0
  · rintro ⟨h1, h2⟩
    have he : partF l flow l.length 0 = 0 + l.length := (partF_all l flow l.length 0).2 (fun j _ hj => h1 j (by omega))
    rw [he]
    have := (trimB_all l 0 (0 + l.length)).2 (.inr (by rw [show 0 + (0 + l.length) - 1 = l.length - 1 by omega]; exact h2))
    omega
theorem begins_pos {l : List UInt8} {flow : Bool} (h : beginsM l 0 flow = true) : 0 < l.length := by
  rcases Nat.eq_zero_or_pos l.length with h0 | h0
  · unfold beginsM endsM at h
    rw [decide_eq_true (show l.length ≤ 0 by omega)] at h
    simp at h
  · exact h0
theorem plain_iff {l : List UInt8} {flow : Bool} : plainM l flow = true ↔ IsPlain l flow := by
  unfold plainM
  simp only [Bool.and_eq_true, Bool.not_eq_true', decide_eq_true_eq]
  constructor
  · rintro ⟨⟨⟨⟨⟨h1, h2⟩, h3⟩, h4⟩, h5⟩, h6⟩
    have hp := begins_pos h1
    have hr := row_byt.1 h3
    obtain ⟨h7, h8⟩ := (part_whole hp hr).1 h2
    exact ⟨hp, h1, h7, h8, hr, h4, h5, h6⟩
  · rintro ⟨hp, h1, h7, h8, hr, h4, h5, h6⟩
    exact ⟨⟨⟨⟨⟨h1, (part_whole hp hr).2 ⟨h7, h8⟩⟩, row_byt.2 hr⟩, h4⟩, h5⟩, h6⟩
theorem cuts_flow {l : List UInt8} {j : Nat} (h : cutsN l j true = false) : flowN (byt l j) = false := by
  unfold cutsN at h
  split at h
  · rename_i h35; rw [h35]; rfl
  · split at h
    · rename_i h58; rw [h58]; rfl
    · simpa using h
theorem stops_same {l : List UInt8} (hn : ∀ j, j < l.length → flowN (byt l j) = false) (p : Nat) : stopsN l p true = stopsN l p false := by
  unfold stopsN
  rcases Nat.lt_or_ge (p + 1) l.length with h | h
  · rw [hn _ h]; simp
  · have : endsM l (p + 1) = true := by unfold endsM; rw [decide_eq_true h]; rfl
    rw [this]; rfl
theorem plain_flow (l : List UInt8) : plainM l true = (plainM l false && !(l.any fun b => flowN b.toNat)) := by
  have hany : (l.any fun b => flowN b.toNat) = false ↔ ∀ j, j < l.length → flowN (byt l j) = false := by
    rw [List.any_eq_false]
    constructor
    · intro h j hj
      have := h (l[j]'hj) (List.getElem_mem hj)
      rw [byt_get l j hj] at this
      simpa using this
    · intro h b hb
      obtain ⟨j, hj, rfl⟩ := List.mem_iff_getElem.1 hb
      have := h j hj
      rw [← byt_get l j hj] at this
      simp [this]
  rw [Bool.eq_iff_iff, Bool.and_eq_true, Bool.not_eq_true', plain_iff, plain_iff, hany]
  constructor
  · intro h
    have hn : ∀ j, j < l.length → flowN (byt l j) = false := fun j hj => cuts_flow (h.cuts j hj)
    refine ⟨⟨h.pos, ?_, fun j hj => ?_, h.last, h.row, h.told, h.mark, h.dots⟩, hn⟩
    · have := h.begin
      unfold beginsM at this ⊢
      rw [stops_same hn] at this
      exact this
    · have := h.cuts j hj
      unfold cutsN at this ⊢
      rw [stops_same hn] at this
      split
      · rename_i h35; rw [if_pos h35] at this; exact this
      · rename_i h35
        rw [if_neg h35] at this
        split
        · rename_i h58; rw [if_pos h58] at this; exact this
        · rfl
  · rintro ⟨h, hn⟩
    refine ⟨h.pos, ?_, fun j hj => ?_, h.last, h.row, h.told, h.mark, h.dots⟩
    · have := h.begin
      unfold beginsM at this ⊢
      rw [stops_same hn]
      exact this
    · have := h.cuts j hj
      unfold cutsN at this ⊢
      rw [stops_same hn]
      split
      · rename_i h35; rw [if_pos h35] at this; exact this
      · rename_i h35
        rw [if_neg h35] at this
        split
        · rename_i h58; rw [if_pos h58] at this; exact this
        · rw [hn j hj]; rfl
/-! ### What looks like anything but a text. -/
def setC (b : UInt8) : Bool := decide ((48 ≤ b.toNat ∧ b.toNat ≤ 57) ∨ (65 ≤ b.toNat ∧ b.toNat ≤ 90) ∨ (97 ≤ b.toNat ∧ b.toNat ≤ 122) ∨ b.toNat = 43 ∨ b.toNat = 45 ∨ b.toNat = 46 ∨ b.toNat = 126)
theorem setC_all : ∀ b : UInt8, setC b = true → (b.toNat ≠ 9 ∧ b.toNat ≠ 10 ∧ b.toNat ≠ 35 ∧ b.toNat ≠ 58 ∧ flowN b.toNat = false ∧ whN b.toNat = false ∧ (b.toNat ≠ 45 → b.toNat ≠ 63 ∧ indN b.toNat = false) ∧ b.toNat < 128 ∧ printable (b.toNat : Int) = true) := by
  intro b h
  have h := of_decide_eq_true h
  refine ⟨by omega, by omega, by omega, by omega, decide_eq_false (by omega), decide_eq_false (by omega), fun h45 => ⟨by omega, ?_⟩, by omega, ?_⟩
  · unfold indN
    rw [Bool.or_eq_false_iff]
    exact ⟨decide_eq_false (by omega), decide_eq_false (by omega)⟩
  · unfold printable
    exact decide_eq_true (by omega)
theorem told_ascii {l : List UInt8} (h : ∀ b ∈ l, setC b = true) : toldP l = true := by
  have he := ascii_enc l (fun b hb => (setC_all b (h b hb)).2.2.2.2.2.2.2.1)
  unfold toldP
  rw [← he, place_enc, runes_enc, Bool.and_eq_true]
  refine ⟨List.all_eq_true.2 fun y hy => ?_, by decide⟩
  obtain ⟨x, hx, rfl⟩ := List.mem_map.1 hy
  obtain ⟨b, hb, rfl⟩ := List.mem_map.1 hx
  have := setC_all b (h b hb)
  rw [fixr_same (by omega) (by omega) (by omega)]
  exact this.2.2.2.2.2.2.2.2
theorem plain_set {l : List UInt8} (h : ∀ b ∈ l, setC b = true) (hp : 0 < l.length) (h45 : byt l 0 = 45 → 2 ≤ l.length) (hm : preN l 45 = false) (hd : preN l 46 = false) (flow : Bool) : plainM l flow = true := by
  have hj : ∀ j, j < l.length → ∃ b, setC b = true ∧ byt l j = b.toNat := fun j hj => ⟨l[j]'hj, h _ (List.getElem_mem hj), (byt_get l j hj).symm⟩
  have hends : ∀ j, j < l.length → endsM l j = false := by
    intro j hjl
    obtain ⟨b, hb, he⟩ := hj j hjl
    have := setC_all b hb
    unfold endsM
    rw [decide_eq_false (by omega), he, this.2.2.2.2.2.1, decide_eq_false (by omega)]
    rfl
  refine plain_iff.2 ⟨hp, ?_, fun j hjl => ?_, ?_, fun j hjl => ?_, told_ascii h, hm, hd⟩
  · obtain ⟨b, hb, he⟩ := hj 0 hp
    have hs := setC_all b hb
    unfold beginsM
    rw [hends 0 hp]
    by_cases h0 : byt l 0 = 45
    · rw [if_pos (.inl h0)]
      obtain ⟨b1, hb1, he1⟩ := hj 1 (by have := h45 h0; omega)
      have hs1 := setC_all b1 hb1
      unfold stopsN
      rw [hends 1 (by have := h45 h0; omega), he1, hs1.2.2.2.2.1]
      simp
    · have := hs.2.2.2.2.2.2.1 (by omega)
      rw [if_neg (by omega), he, this.2]
      rfl
  · obtain ⟨b, hb, he⟩ := hj j hjl
    have hs := setC_all b hb
    unfold cutsN
    rw [if_neg (by omega), if_neg (by omega), he, hs.2.2.2.2.1, Bool.and_false]
  · obtain ⟨b, hb, he⟩ := hj (l.length - 1) (by omega)
    rw [he]
    exact (setC_all b hb).2.2.2.2.2.1
  · obtain ⟨b, hb, he⟩ := hj j hjl
    have hs := setC_all b hb
    omega
theorem dec10_set {b : UInt8} (h : dec10 b = true) : setC b = true := by
  have h := of_decide_eq_true h
  exact decide_eq_true (by omega)
theorem unsign_set {t : List UInt8} (h : ∀ b ∈ unsign t, setC b = true) : ∀ b ∈ t, setC b = true := by
  cases t with
  | nil => intro b hb; cases hb
  | cons a t =>
    have hu : unsign (a :: t) = if a = 43 ∨ a = 45 then t else a :: t := rfl
    rw [hu] at h
    by_cases ha : a = 43 ∨ a = 45
    · rw [if_pos ha] at h
      intro b hb
      rcases List.mem_cons.1 hb with rfl | hb
      · rcases ha with rfl | rfl <;> decide
      · exact h b hb
    · rw [if_neg ha] at h
      exact h
theorem takeW_mem {p : UInt8 → Bool} : ∀ {l : List UInt8} {b : UInt8}, b ∈ l.takeWhile p → p b = true := by
  intro l
  induction l with
  | nil => intro b hb; cases hb
  | cons a t ih =>
    intro b hb
    rw [List.takeWhile_cons] at hb
    split at hb
    · rename_i ha
      rcases List.mem_cons.1 hb with rfl | hb
      · exact ha
      · exact ih hb
    · cases hb
theorem all_set {l : List UInt8} (h : allOf dec10 l = true) : ∀ b ∈ l, setC b = true := by
  unfold allOf at h
  rw [Bool.and_eq_true] at h
  exact fun b hb => dec10_set (List.all_eq_true.1 h.2 b hb)
theorem expo_set {k : Nat} {l : List UInt8} (h : expo k l ≠ 0) : ∀ b ∈ l, setC b = true := by
  cases l with
  | nil => intro b hb; cases hb
  | cons a t =>
    rw [expo_cons] at h
    split at h
    · rename_i ha
      split at h
      · rename_i hd
        intro b hb
        rcases List.mem_cons.1 hb with rfl | hb
        · rcases ha with rfl | rfl <;> decide
        · exact unsign_set (all_set hd) b hb
      · exact absurd rfl h
    · exact absurd rfl h
theorem take_set (l : List UInt8) : ∀ b ∈ l.takeWhile dec10, setC b = true := fun _ hb => dec10_set (takeW_mem hb)
theorem num_set {u : List UInt8} (h : num u ≠ 0) : (∀ b ∈ u, setC b = true) ∧ ∃ b t, u = b :: t ∧ b ≠ 45 ∧ b ≠ 43 ∧ (b = 46 → ∃ c t', t = c :: t' ∧ dec10 c = true) := by
  unfold num at h
  have hu : u.takeWhile dec10 ++ u.dropWhile dec10 = u := List.takeWhile_append_dropWhile
  have hd := take_set u
  have hdd : ∀ b ∈ u.takeWhile dec10, dec10 b = true := fun b hb => takeW_mem hb
  generalize u.takeWhile dec10 = d at *
  generalize u.dropWhile dec10 = r at *
  subst hu
  have hr : (∀ b ∈ r, setC b = true) ∧ (d = [] → ∃ c t', r = 46 :: c :: t' ∧ dec10 c = true) := by
    cases r with
    | nil =>
      refine ⟨fun b hb => (by cases hb), fun hd0 => ?_⟩
      subst hd0
      exact absurd rfl h
    | cons b t =>
      rw [numR_cons] at h
      by_cases h46 : b = 46
      · rw [if_pos h46] at h
        subst h46
        split at h
        · exact absurd rfl h
        · rename_i ha
          have ht : t.takeWhile dec10 ++ t.dropWhile dec10 = t := List.takeWhile_append_dropWhile
          refine ⟨fun b hb => ?_, fun hd0 => ?_⟩
          · rcases List.mem_cons.1 hb with rfl | hb
            · decide
            · rw [← ht] at hb
              rcases List.mem_append.1 hb with hb | hb
              · exact take_set t b hb
              · exact expo_set h b hb
          · subst hd0
            cases t with
            | nil => exact absurd rfl ha
            | cons c t' =>
              refine ⟨c, t', rfl, ?_⟩
              cases hc : dec10 c with
              | true => rfl
              | false =>
                rw [List.takeWhile_cons, hc] at ha
                exact absurd rfl ha
      · rw [if_neg h46] at h
        split at h
        · exact absurd rfl h
        · rename_i ha
          refine ⟨expo_set h, fun hd0 => ?_⟩
          subst hd0
          exact absurd rfl ha
  refine ⟨fun b hb => (List.mem_append.1 hb).elim (hd b) (hr.1 b), ?_⟩
  cases d with
  | nil =>
    obtain ⟨c, t', rfl, hc⟩ := hr.2 rfl
    exact ⟨46, c :: t', rfl, by decide, by decide, fun _ => ⟨c, t', rfl, hc⟩⟩
  | cons a d' =>
    have := dec10_no (hdd a (by simp))
    exact ⟨a, d' ++ r, rfl, this.2.1, this.1, fun h => absurd h this.2.2.1⟩
end U
end Go.Proofs.YtjfgcbikdibjeaaGreatDoor

/- Plain laws: cut at line feeds, as the library does it; is a byte in a text. -/
namespace Go.Proofs.YtjfgcbikdibjeaaGreatDoor
namespace U
open Go

theorem index_byte_cons (b c : UInt8) (l : List UInt8) (h : b ≠ c) : Lib.index (b :: l) [c] = if Lib.index l [c] = -1 then -1 else Lib.index l [c] + 1 := by
  have hp : ([c] : List UInt8).isPrefixOf (b :: l) = false := by simp [List.isPrefixOf, Ne.symm h]
  rw [Lib.index, hp]
  simp
theorem index_byte_hit (c : UInt8) (l : List UInt8) : Lib.index (c :: l) [c] = 0 := by
  rw [Lib.index]
  simp [List.isPrefixOf]
theorem contains_byte (c : UInt8) : ∀ l : List UInt8, Lib.contains l [c] = l.any fun b => b == c := by
  intro l
  unfold Lib.contains
  induction l with
  | nil => rfl
  | cons b t ih =>
    by_cases h : b = c
    · subst h
      rw [index_byte_hit]
      simp
    · rw [index_byte_cons b c t h, List.any_cons, ← ih, show (b == c) = false by simpa using h, Bool.false_or]
      have := Lib.index_ge t [c]
      split
      · rename_i h1; rw [h1]
      · rw [Bool.eq_iff_iff, decide_eq_true_iff, decide_eq_true_iff]; omega
theorem splitK_cons (b c : UInt8) (h : b ≠ c) : ∀ (k : Nat) (t : List UInt8), ∃ x xs, Lib.splitK [c] 0 k t = x :: xs ∧ Lib.splitK [c] 0 k (b :: t) = (b :: x) :: xs := by
  intro k t
  cases k with
  | zero => exact ⟨t, [], rfl, rfl⟩
  | succ k =>
    have hi := index_byte_cons b c t h
    rw [Lib.splitK, Lib.splitK]
    by_cases hm : Lib.index t [c] = -1
    · rw [if_pos hm] at hi
      rw [if_pos (by rw [hm]; rfl), if_pos (by rw [hi]; rfl)]
      exact ⟨t, [], rfl, rfl⟩
    · rw [if_neg hm] at hi
      have hge := Lib.index_ge t [c]
      obtain ⟨i, hix⟩ : ∃ i : Nat, Lib.index t [c] = i := ⟨(Lib.index t [c]).toNat, by omega⟩
      rw [hix] at hi
      rw [if_neg (by rw [hix]; simp), if_neg (by rw [hi]; simp; omega), hix, hi]
      refine ⟨_, _, rfl, ?_⟩
      rw [show ((i : Int) + 1).toNat = i + 1 by omega, show ((i : Int)).toNat = i from rfl]
      simp
theorem split_feed : ∀ (l cur : List UInt8), ∃ x xs, Lib.split l [10] = x :: xs ∧ splitB cur l = (cur ++ x) :: xs := by
  intro l
  induction l with
  | nil => intro cur; exact ⟨[], [], rfl, by simp [splitB]⟩
  | cons b t ih =>
    intro cur
    by_cases h : b = 10
    · subst h
      obtain ⟨x, xs, h1, h2⟩ := ih []
      refine ⟨[], x :: xs, ?_, ?_⟩
      · unfold Lib.split at h1 ⊢
        rw [Lib.count_cons_eq, Nat.add_comm, Lib.splitK, index_byte_hit, if_neg (by decide)]
        simp only [Int.toNat_zero, Nat.zero_add, List.length_singleton, List.drop_succ_cons, List.drop_zero, List.take_zero]
        rw [h1]
      · rw [splitB, if_pos rfl, h2]
        simp
    · obtain ⟨x, xs, h1, h2⟩ := ih (cur ++ [b])
      obtain ⟨y, ys, h3, h4⟩ := splitK_cons b 10 h (Lib.count t [10]) t
      unfold Lib.split at h1 ⊢
      rw [h1] at h3
      injection h3 with h5 h6
      subst h5 h6
      refine ⟨b :: x, xs, ?_, ?_⟩
      · rw [Lib.count_cons_ne b 10 t h]; exact h4
      · rw [splitB, if_neg h, h2]
        simp
theorem split_is (l : List UInt8) : Lib.split l [10] = splitB [] l := by
  obtain ⟨x, xs, h1, h2⟩ := split_feed l []
  rw [h1, h2]
  rfl
theorem trim_is (l : List UInt8) : Lib.trimSuffix l [10] = trimLF l := by
  unfold Lib.trimSuffix trimLF Lib.hasSuffix
  rcases List.eq_nil_or_concat l with rfl | ⟨m, b, rfl⟩
  · rfl
  · have h1 : (m ++ [b]).getLast? = some b := by simp
    rw [List.concat_eq_append, h1]
    by_cases h : b = 10
    · subst h
      have : ([10] : List UInt8).isSuffixOf (m ++ [10]) = true := by rw [List.isSuffixOf_iff_suffix]; exact ⟨m, rfl⟩
      rw [this, if_pos rfl, if_pos rfl]
      simp
    · have : ([10] : List UInt8).isSuffixOf (m ++ [b]) = false := by
        rw [Bool.eq_false_iff]
        intro hh
        obtain ⟨t, ht⟩ := List.isSuffixOf_iff_suffix.1 hh
        have := congrArg List.getLast? ht
        simp at this
        exact h this.symm
      rw [this, if_neg (by decide), if_neg (by simpa using h)]
theorem splitB_len : ∀ (l cur : List UInt8), (splitB cur l).length ≤ l.length + 1 ∧ ∀ x ∈ splitB cur l, x.length ≤ cur.length + l.length := by
  intro l
  induction l with
  | nil => intro cur; exact ⟨by simp [splitB], fun x hx => by obtain rfl := List.mem_singleton.1 hx; simp⟩
  | cons b t ih =>
    intro cur
    rw [splitB]
    split
    · obtain ⟨h1, h2⟩ := ih []
      refine ⟨by simp; omega, fun x hx => ?_⟩
      rcases List.mem_cons.1 hx with rfl | hx
      · simp
      · have := h2 x hx; simp at this ⊢; omega
    · obtain ⟨h1, h2⟩ := ih (cur ++ [b])
      refine ⟨by simp; omega, fun x hx => ?_⟩
      have := h2 x hx; simp at this ⊢; omega
theorem splitB_ne (l cur : List UInt8) : splitB cur l ≠ [] := by
  obtain ⟨x, xs, _, h⟩ := split_feed l cur
  rw [h]
  simp
theorem trimLF_len (l : List UInt8) : (trimLF l).length ≤ l.length := by
  unfold trimLF
  split
  · rw [List.length_dropLast]; omega
  · exact Nat.le_refl _
end U
end Go.Proofs.YtjfgcbikdibjeaaGreatDoor

/- Plain law: what looks like anything but a text may stand plain. -/
namespace Go.Proofs.YtjfgcbikdibjeaaGreatDoor
namespace U
open Go

theorem lists_plain : ∀ s ∈ nulls ++ bools ++ nans, s ≠ [] → plainM s false = true ∧ plainM s true = true := by decide +kernel
theorem unsign_cases (s : List UInt8) : unsign s = s ∨ s = 43 :: unsign s ∨ s = 45 :: unsign s := by
  cases s with
  | nil => exact .inl rfl
  | cons a t =>
    have hu : unsign (a :: t) = if a = 43 ∨ a = 45 then t else a :: t := rfl
    rw [hu]
    by_cases ha : a = 43 ∨ a = 45
    · rw [if_pos ha]
      rcases ha with rfl | rfl
      · exact .inr (.inl rfl)
      · exact .inr (.inr rfl)
    · rw [if_neg ha]
      exact .inl rfl
theorem unsign_plain {s : List UInt8} (hs : ∀ b ∈ unsign s, setC b = true) (hf : ∃ b t, unsign s = b :: t ∧ b ≠ 45 ∧ (b = 46 → ∃ c t', t = c :: t' ∧ c ≠ 46)) (flow : Bool) : plainM s flow = true := by
  obtain ⟨b, t, hu, hb, hd⟩ := hf
  have hset := unsign_set hs
  have hb45 : b.toNat ≠ 45 := fun h => hb (UInt8.toNat_inj.1 h)
  have h46 : b.toNat = 46 → ∃ c t', t = c :: t' ∧ c.toNat ≠ 46 := fun h => by
    obtain ⟨c, t', h1, h2⟩ := hd (UInt8.toNat_inj.1 h)
    exact ⟨c, t', h1, fun h => h2 (UInt8.toNat_inj.1 h)⟩
  rcases unsign_cases s with h | h | h
  · rw [hu] at h
    subst h
    refine plain_set hset (by simp) (fun h => absurd (show b.toNat = 45 from h) hb45) (decide_eq_false fun h => hb45 h.2.1) (decide_eq_false fun h => ?_) flow
    obtain ⟨c, t', rfl, h2⟩ := h46 h.2.1
    exact h2 h.2.2.1
  · rw [hu] at h
    subst h
    exact plain_set hset (by simp) (fun h => by have : (43 : UInt8).toNat = 45 := h; cases this) (decide_eq_false fun h => by have : (43 : UInt8).toNat = 45 := h.2.1; cases this) (decide_eq_false fun h => by have : (43 : UInt8).toNat = 46 := h.2.1; cases this) flow
  · rw [hu] at h
    subst h
    exact plain_set hset (by simp) (fun _ => by simp) (decide_eq_false fun h => hb45 h.2.2.1) (decide_eq_false fun h => by have : (45 : UInt8).toNat = 46 := h.2.1; cases this) flow
theorem allOf_mem {p : UInt8 → Bool} {l : List UInt8} (h : allOf p l = true) : l ≠ [] ∧ ∀ b ∈ l, p b = true := by
  unfold allOf at h
  rw [Bool.and_eq_true] at h
  exact ⟨fun e => (by rw [e] at h; cases h.1), fun b hb => List.all_eq_true.1 h.2 b hb⟩
theorem oct_set {b : UInt8} (h : oct8 b = true) : setC b = true := by
  have h := of_decide_eq_true h
  exact decide_eq_true (by omega)
theorem hex_set {b : UInt8} (h : hex16 b = true) : setC b = true := by
  have h := of_decide_eq_true h
  exact decide_eq_true (by omega)
theorem base_plain {c : UInt8} {t : List UInt8} (hc : setC c = true) (ht : ∀ b ∈ t, setC b = true) (flow : Bool) : plainM (48 :: c :: t) flow = true := by
  refine plain_set (fun b hb => ?_) (by simp) (fun h => by have : (48 : UInt8).toNat = 45 := h; cases this) (decide_eq_false fun h => by have : (48 : UInt8).toNat = 45 := h.2.1; cases this) (decide_eq_false fun h => by have : (48 : UInt8).toNat = 46 := h.2.1; cases this) flow
  rcases List.mem_cons.1 hb with rfl | hb
  · decide
  · rcases List.mem_cons.1 hb with rfl | hb
    · exact hc
    · exact ht b hb
theorem infs_all : ∀ s ∈ infs, (∀ b ∈ s, setC b = true) ∧ ∃ c t', s = 46 :: c :: t' ∧ c ≠ 46 := by
  intro s hs
  simp only [infs, List.mem_cons, List.not_mem_nil, or_false] at hs
  rcases hs with rfl | rfl | rfl
  · exact ⟨by decide, _, _, rfl, by decide⟩
  · exact ⟨by decide, _, _, rfl, by decide⟩
  · exact ⟨by decide, _, _, rfl, by decide⟩
theorem core_plain {s : List UInt8} (h0 : s ≠ []) (h : coreP s ≠ wStr) (flow : Bool) : plainM s flow = true := by
  have hl : ∀ s ∈ nulls ++ bools ++ nans, s ≠ [] → plainM s flow = true := fun s hs h0 => by
    have := lists_plain s hs h0
    cases flow
    · exact this.1
    · exact this.2
  unfold coreP at h
  by_cases h1 : nulls.contains s = true
  · exact hl s (by simp only [List.mem_append]; exact .inl (.inl (by simpa using h1))) h0
  rw [if_neg h1] at h
  by_cases h2 : bools.contains s = true
  · exact hl s (by simp only [List.mem_append]; exact .inl (.inr (by simpa using h2))) h0
  rw [if_neg h2] at h
  by_cases h3 : wholeB s = true
  · unfold wholeB at h3
    by_cases ho : pre2 48 111 s = true
    · rw [if_pos ho] at h3
      obtain ⟨t, rfl⟩ := pre2_form ho
      have ha : allOf oct8 t = true := h3
      exact base_plain (by decide) (fun b hb => oct_set ((allOf_mem ha).2 b hb)) flow
    rw [if_neg ho] at h3
    by_cases hx : pre2 48 120 s = true
    · rw [if_pos hx] at h3
      obtain ⟨t, rfl⟩ := pre2_form hx
      have ha : allOf hex16 t = true := h3
      exact base_plain (by decide) (fun b hb => hex_set ((allOf_mem ha).2 b hb)) flow
    rw [if_neg hx] at h3
    obtain ⟨hne, hall⟩ := allOf_mem h3
    refine unsign_plain (fun b hb => dec10_set (hall b hb)) ?_ flow
    cases hu : unsign s with
    | nil => exact absurd hu hne
    | cons b t =>
      have := dec10_no (hall b (by rw [hu]; simp))
      exact ⟨b, t, rfl, this.2.1, fun h => absurd h this.2.2.1⟩
  rw [if_neg h3] at h
  by_cases h4 : floatB s = true
  · unfold floatB at h4
    rw [Bool.or_eq_true] at h4
    rcases h4 with h4 | h4
    · obtain ⟨hs, c, t', hu, hc⟩ := infs_all (unsign s) (by simpa using h4)
      exact unsign_plain hs ⟨46, c :: t', hu, by decide, fun _ => ⟨c, t', rfl, hc⟩⟩ flow
    · have hn : num (unsign s) ≠ 0 := by simpa using h4
      obtain ⟨hs, b, t, hu, hb, _, hd⟩ := num_set hn
      refine unsign_plain hs ⟨b, t, hu, hb, fun h46 => ?_⟩ flow
      obtain ⟨c, t', h1, h2⟩ := hd h46
      exact ⟨c, t', h1, (dec10_no h2).2.2.1⟩
  rw [if_neg h4] at h
  by_cases h5 : nans.contains s = true
  · exact hl s (by simp only [List.mem_append]; exact .inr (by simpa using h5)) h0
  · rw [if_neg h5] at h
    exact absurd rfl h
end U
end Go.Proofs.YtjfgcbikdibjeaaGreatDoor

