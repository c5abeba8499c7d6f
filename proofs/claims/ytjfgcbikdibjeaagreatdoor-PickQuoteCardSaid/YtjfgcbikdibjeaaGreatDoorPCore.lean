/- Plain laws on what plain scalars are (chapter 8). No program in sight. -/
import Derived.Test.YtjfgcbikdibjeaaGreatDoorPUtf
namespace Go.Proofs.YtjfgcbikdibjeaaGreatDoor
namespace U
open Go

def dec10 (b : UInt8) : Bool := decide (48 ≤ b.toNat ∧ b.toNat ≤ 57)
def oct8 (b : UInt8) : Bool := decide (48 ≤ b.toNat ∧ b.toNat ≤ 55)
def hex16 (b : UInt8) : Bool := decide ((48 ≤ b.toNat ∧ b.toNat ≤ 57) ∨ (97 ≤ b.toNat ∧ b.toNat ≤ 102) ∨ (65 ≤ b.toNat ∧ b.toNat ≤ 70))
/-- Bytes of some kind, one at least. -/
def allOf (p : UInt8 → Bool) (l : List UInt8) : Bool := !l.isEmpty && l.all p
/-- Without a sign at its beginning. -/
def unsign : List UInt8 → List UInt8
  | [] => []
  | b :: t => if b = 43 ∨ b = 45 then t else b :: t
/-- A power, or none: what is told then; 0: neither. -/
def expo (k : Nat) : List UInt8 → Nat
  | [] => k
  | b :: t => if b = 101 ∨ b = 69 then (if allOf dec10 (unsign t) = true then 2 else 0) else 0
/-- Is it a number without a sign: 1 whole, 2 with a point or a power; 0: none. -/
def numR (a : Bool) : List UInt8 → Nat
  | [] => if a then 0 else 1
  | b :: t => if b = 46 then (if a && (t.takeWhile dec10).isEmpty then 0 else expo 2 (t.dropWhile dec10)) else if a then 0 else expo 1 (b :: t)
def num (t : List UInt8) : Nat := numR (t.takeWhile dec10).isEmpty (t.dropWhile dec10)

def nulls : List (List UInt8) := [[], [110, 117, 108, 108], [78, 117, 108, 108], [78, 85, 76, 76], [126]]
def bools : List (List UInt8) := [[116, 114, 117, 101], [84, 114, 117, 101], [84, 82, 85, 69], [102, 97, 108, 115, 101], [70, 97, 108, 115, 101], [70, 65, 76, 83, 69]]
def nans : List (List UInt8) := [[46, 110, 97, 110], [46, 78, 97, 78], [46, 78, 65, 78]]
def infs : List (List UInt8) := [[46, 105, 110, 102], [46, 73, 110, 102], [46, 73, 78, 70]]
def wNull : List UInt8 := [110, 117, 108, 108]
def wBool : List UInt8 := [98, 111, 111, 108]
def wInt : List UInt8 := [105, 110, 116]
def wFloat : List UInt8 := [102, 108, 111, 97, 116]
def wStr : List UInt8 := [115, 116, 114]
/-- tag:yaml.org,2002: -/
def house : List UInt8 := [116, 97, 103, 58, 121, 97, 109, 108, 46, 111, 114, 103, 44, 50, 48, 48, 50, 58]
def longOf (w : List UInt8) : List UInt8 := house ++ w

def pre2 (a b : UInt8) (l : List UInt8) : Bool := [a, b].isPrefixOf l
/-- Whether a text is whole, as the program asks. -/
def wholeB (s : List UInt8) : Bool :=
  if pre2 48 111 s then allOf oct8 (s.drop 2) else if pre2 48 120 s then allOf hex16 (s.drop 2) else allOf dec10 (unsign s)
def floatB (s : List UInt8) : Bool := infs.contains (unsign s) || num (unsign s) != 0
/-- What a plain scalar is, in the program's order. -/
def coreP (s : List UInt8) : List UInt8 :=
  if nulls.contains s then wNull else if bools.contains s then wBool else if wholeB s then wInt else if floatB s then wFloat else if nans.contains s then wFloat else wStr
def basesR (s : List UInt8) : Bool := (pre2 48 111 s && allOf oct8 (s.drop 2)) || (pre2 48 120 s && allOf hex16 (s.drop 2))
def restR (s : List UInt8) : List UInt8 :=
  if infs.contains (unsign s) then wFloat else if num (unsign s) = 1 then wInt else if num (unsign s) = 2 then wFloat else wStr
/-- What a plain scalar is, in the document's order. -/
def coreR (s : List UInt8) : List UInt8 :=
  if nulls.contains s then wNull else if bools.contains s then wBool else if nans.contains s then wFloat else if basesR s then wInt else restR s

theorem expo_nil (k : Nat) : expo k [] = k := rfl
theorem expo_cons (k : Nat) (b : UInt8) (t : List UInt8) : expo k (b :: t) = if b = 101 ∨ b = 69 then (if allOf dec10 (unsign t) = true then 2 else 0) else 0 := rfl
theorem expo_le (k : Nat) (l : List UInt8) : expo k l = 0 ∨ (expo k l = k ∧ l = []) ∨ expo k l = 2 := by
  cases l with
  | nil => exact .inr (.inl ⟨rfl, rfl⟩)
  | cons b t =>
    rw [expo_cons]
    split
    · split
      · exact .inr (.inr rfl)
      · exact .inl rfl
    · exact .inl rfl
theorem numR_nil (a : Bool) : numR a [] = if a then 0 else 1 := rfl
theorem numR_cons (a : Bool) (b : UInt8) (t : List UInt8) : numR a (b :: t) = if b = 46 then (if a && (t.takeWhile dec10).isEmpty then 0 else expo 2 (t.dropWhile dec10)) else if a then 0 else expo 1 (b :: t) := rfl
theorem numR_cases (a : Bool) (r : List UInt8) : numR a r = 0 ∨ (numR a r = 1 ∧ r = [] ∧ a = false) ∨ numR a r = 2 := by
  cases r with
  | nil => cases a <;> simp [numR_nil]
  | cons b u =>
    rw [numR_cons]
    split
    · split
      · exact .inl rfl
      · rcases expo_le 2 (u.dropWhile dec10) with h | h | h
        · exact .inl h
        · exact .inr (.inr h.1)
        · exact .inr (.inr h)
    · split
      · exact .inl rfl
      · rcases expo_le 1 (b :: u) with h | h | h
        · exact .inl h
        · exact absurd h.2 (by simp)
        · exact .inr (.inr h)
theorem num_cases (t : List UInt8) : num t = 0 ∨ num t = 1 ∨ num t = 2 := by
  unfold num
  rcases numR_cases (t.takeWhile dec10).isEmpty (t.dropWhile dec10) with h | h | h
  · exact .inl h
  · exact .inr (.inl h.1)
  · exact .inr (.inr h)
theorem dropWhile_nil_iff (p : UInt8 → Bool) (l : List UInt8) : l.dropWhile p = [] ↔ l.all p = true := by
  induction l with
  | nil => simp
  | cons b t ih =>
    by_cases h : p b
    · simp [h, ih]
    · simp [h]
theorem takeWhile_nil_of (p : UInt8 → Bool) (l : List UInt8) (h : l.all p = true) : l.takeWhile p = l := by
  induction l with
  | nil => rfl
  | cons b t ih =>
    simp at h
    simp [h.1]
    exact ih (by simpa using h.2)
theorem num_one (t : List UInt8) : num t = 1 ↔ allOf dec10 t = true := by
  unfold num allOf
  constructor
  · intro h
    rcases numR_cases (t.takeWhile dec10).isEmpty (t.dropWhile dec10) with h' | h' | h'
    · omega
    · have ha := (dropWhile_nil_iff dec10 t).1 h'.2.1
      have h2 := h'.2.2
      rw [takeWhile_nil_of _ _ ha] at h2
      rw [h2, ha]
      rfl
    · omega
  · intro h
    simp only [Bool.and_eq_true] at h
    rw [(dropWhile_nil_iff dec10 t).2 h.2, takeWhile_nil_of _ _ h.2]
    cases t with
    | nil => simp at h
    | cons b u => rfl
theorem pre2_form {a b : UInt8} {l : List UInt8} (h : pre2 a b l = true) : ∃ t, l = a :: b :: t := by
  obtain ⟨t, ht⟩ := List.isPrefixOf_iff_prefix.1 h
  exact ⟨t, ht.symm⟩
theorem inf_no_whole (t : List UInt8) (h : infs.contains t = true) : num t ≠ 1 := by
  have hall : ∀ x ∈ infs, num x ≠ 1 := by decide
  exact hall t (by simpa using h)
theorem num_base (c : UInt8) (hc : dec10 c = false) (h46 : c ≠ 46) (he : c ≠ 101 ∧ c ≠ 69) (t : List UInt8) : num (unsign (48 :: c :: t)) = 0 ∧ infs.contains (unsign (48 :: c :: t)) = false := by
  have hu : unsign (48 :: c :: t) = 48 :: c :: t := by simp [unsign]
  rw [hu]
  constructor
  · have h1 : (48 :: c :: t).takeWhile dec10 = [48] := by simp [hc, show dec10 48 = true by decide]
    have h2 : (48 :: c :: t).dropWhile dec10 = c :: t := by simp [hc, show dec10 48 = true by decide]
    unfold num
    rw [h1, h2]
    simp [numR, h46, expo, he]
  · simp [infs]
theorem core_eq (s : List UInt8) : coreP s = coreR s := by
  unfold coreP coreR
  split
  · rfl
  split
  · rfl
  by_cases hn : nans.contains s = true
  · rw [if_pos hn, if_pos hn]
    have hall : ∀ x ∈ nans, (if wholeB x then wInt else if floatB x then wFloat else wFloat) = wFloat := by decide
    exact hall s (by simpa using hn)
  rw [if_neg hn, if_neg hn]
  unfold wholeB basesR restR floatB
  by_cases ho : pre2 48 111 s = true
  · obtain ⟨t, rfl⟩ := pre2_form ho
    obtain ⟨h1, h2⟩ := num_base 111 (by decide) (by decide) (by decide) t
    rw [if_pos ho, ho, h1, h2]
    have hx : pre2 48 120 (48 :: 111 :: t) = false := by simp [pre2, List.isPrefixOf]
    rw [hx]
    cases allOf oct8 ((48 :: 111 :: t).drop 2) <;> simp
  · rw [if_neg ho]
    rw [Bool.not_eq_true] at ho
    rw [ho]
    by_cases hx : pre2 48 120 s = true
    · obtain ⟨t, rfl⟩ := pre2_form hx
      obtain ⟨h1, h2⟩ := num_base 120 (by decide) (by decide) (by decide) t
      rw [if_pos hx, hx, h1, h2]
      cases allOf hex16 ((48 :: 120 :: t).drop 2) <;> simp
    · rw [if_neg hx]
      rw [Bool.not_eq_true] at hx
      rw [hx]
      simp only [Bool.false_and, Bool.or_false, Bool.false_eq_true, if_false]
      have h1 := num_one (unsign s)
      have h2 := num_cases (unsign s)
      have h3 := inf_no_whole (unsign s)
      cases hi : infs.contains (unsign s) with
      | true =>
        have h4 := h3 hi
        rw [if_neg (fun h => h4 (h1.2 h))]
        simp
      | false =>
        rcases h2 with h2 | h2 | h2
        · rw [if_neg (fun h => by have := h1.2 h; omega), h2]; rfl
        · rw [if_pos (h1.1 h2), h2]; rfl
        · rw [if_neg (fun h => by have := h1.2 h; omega), h2]; rfl
end U
end Go.Proofs.YtjfgcbikdibjeaaGreatDoor
