/- Plain laws on texts: ends of rows, clean texts. No program in sight. -/
import Derived.Test.YtipcfdebbjfecaaDoorPSpot
import Derived.Lib.ReplaceLaws
import Derived.Lib.Strings
namespace Go.Proofs.YtipcfdebbjfecaaDoor
namespace U
open Go

/-! ### strings.ReplaceAll, byte by byte. -/
theorem index_cons_no {b : UInt8} {l o : List UInt8} (h : o.isPrefixOf (b :: l) = false) : Lib.index (b :: l) o = if Lib.index l o == -1 then -1 else Lib.index l o + 1 := by
  rw [Lib.index, if_neg (by rw [h]; decide)]
theorem index_cons_yes {s o : List UInt8} (hs : s ≠ []) (h : o.isPrefixOf s = true) : Lib.index s o = 0 := by
  cases s with
  | nil => exact absurd rfl hs
  | cons b l => rw [Lib.index, if_pos h]
theorem repl_nil (o n : List UInt8) (ho : o ≠ []) (hne : o ≠ n) : Lib.replaceAll [] o n = [] := by
  have hi : Lib.index [] o = -1 := by
    rw [Lib.index, if_neg]
    cases o with
    | nil => exact absurd rfl ho
    | cons a t => simp
  unfold Lib.replaceAll Lib.replace
  rw [if_neg (by simpa using hne), Lib.replaceNum, if_pos (Or.inl (by decide)), Lib.count_miss hi]
  rfl
theorem repl_eq (s o n : List UInt8) (hne : o ≠ n) : Lib.replaceAll s o n = Lib.replaceK o n (Lib.count s o) s := by
  unfold Lib.replaceAll Lib.replace
  rw [if_neg (by simpa using hne), Lib.replaceNum, if_pos (Or.inl (by decide))]
theorem repl_yes (s o n : List UInt8) (ho : o ≠ []) (hs : s ≠ []) (hne : o ≠ n) (h : o.isPrefixOf s = true) : Lib.replaceAll s o n = n ++ Lib.replaceAll (s.drop o.length) o n := by
  have hi : Lib.index s o = (0 : Nat) := index_cons_yes hs h
  rw [repl_eq s o n hne, repl_eq _ o n hne, Lib.count_hit ho hi, Nat.add_comm 1, Lib.replaceK_hit o n _ s 0 hi]
  simp
theorem repl_no (b : UInt8) (l o n : List UInt8) (ho : o ≠ []) (hne : o ≠ n) (h : o.isPrefixOf (b :: l) = false) : Lib.replaceAll (b :: l) o n = b :: Lib.replaceAll l o n := by
  have hi := index_cons_no h
  rw [repl_eq _ o n hne, repl_eq _ o n hne]
  have hg := Lib.index_ge l o
  by_cases hm : Lib.index l o = -1
  · rw [hm] at hi
    rw [Lib.count_miss (show Lib.index (b :: l) o = -1 by rw [hi]; rfl), Lib.count_miss hm]
    rfl
  · obtain ⟨i, hx⟩ : ∃ i : Nat, Lib.index l o = i := ⟨(Lib.index l o).toNat, by omega⟩
    have hx2 : Lib.index (b :: l) o = ((i + 1 : Nat) : Int) := by
      rw [hi, hx, if_neg (by simp)]; rfl
    rw [Lib.count_hit ho hx2, Lib.count_hit ho hx, Nat.add_comm 1, Nat.add_comm 1, Lib.replaceK_hit o n _ _ _ hx2, Lib.replaceK_hit o n _ _ _ hx]
    rw [show i + 1 + o.length = (i + o.length) + 1 by omega]
    simp

/-- LF for CR. -/
def feed (b : UInt8) : UInt8 := if b = 13 then 10 else b
/-- CR LF and CR are LF. -/
def norm : List UInt8 → List UInt8
  | [] => []
  | [b] => [feed b]
  | b :: c :: t => if b = 13 ∧ c = 10 then 10 :: norm t else feed b :: norm (c :: t)
/-- CR LF is LF. -/
def norm1 : List UInt8 → List UInt8
  | [] => []
  | [b] => [b]
  | b :: c :: t => if b = 13 ∧ c = 10 then 10 :: norm1 t else b :: norm1 (c :: t)
def norm2 (l : List UInt8) : List UInt8 := l.map feed

theorem repl1 (f : Nat) : ∀ l : List UInt8, l.length ≤ f → Lib.replaceAll l [13, 10] [10] = norm1 l := by
  induction f with
  | zero =>
    intro l hl
    have : l = [] := by cases l <;> simp_all
    subst this
    exact repl_nil _ _ (by decide) (by decide)
  | succ f ih =>
    intro l hl
    match l, hl with
    | [], _ => exact repl_nil _ _ (by decide) (by decide)
    | [b], _ =>
      rw [repl_no _ _ _ _ (by decide) (by decide) (by simp [List.isPrefixOf]), repl_nil _ _ (by decide) (by decide)]
      rfl
    | b :: c :: t, hl =>
      by_cases h : b = 13 ∧ c = 10
      · rw [norm1, if_pos h]
        obtain ⟨rfl, rfl⟩ := h
        rw [repl_yes _ _ _ (by decide) (by simp) (by decide) (by simp [List.isPrefixOf])]
        simp only [List.length_cons, List.length_nil, List.drop_succ_cons, List.drop_zero]
        rw [ih t (by simp at hl; omega)]
        rfl
      · rw [norm1, if_neg h, repl_no _ _ _ _ (by decide) (by decide) ?_, ih _ (by simpa using hl)]
        rw [Bool.eq_false_iff]
        intro hh
        simp [List.isPrefixOf] at hh
        exact h ⟨hh.1.symm, hh.2.symm⟩
theorem repl2 (l : List UInt8) : Lib.replaceAll l [13] [10] = norm2 l := by
  induction l with
  | nil => exact repl_nil _ _ (by decide) (by decide)
  | cons b l ih =>
    by_cases hb : b = 13
    · subst hb
      rw [repl_yes _ _ _ (by decide) (by simp) (by decide) (by simp [List.isPrefixOf])]
      simp only [List.length_cons, List.length_nil, List.drop_succ_cons, List.drop_zero]
      rw [ih]
      simp [norm2, feed]
    · rw [repl_no _ _ _ _ (by decide) (by decide) (by simp [List.isPrefixOf, Ne.symm hb]), ih]
      simp [norm2, feed, hb]
theorem norm12 (f : Nat) : ∀ l : List UInt8, l.length ≤ f → norm2 (norm1 l) = norm l := by
  induction f with
  | zero =>
    intro l hl
    have : l = [] := by cases l <;> simp_all
    subst this
    rfl
  | succ f ih =>
    intro l hl
    match l, hl with
    | [], _ => rfl
    | [b], _ => rfl
    | b :: c :: t, hl =>
      by_cases h : b = 13 ∧ c = 10
      · have := ih t (by simp at hl; omega)
        rw [norm1, if_pos h, norm, if_pos h, ← this]
        rfl
      · have := ih (c :: t) (by simpa using hl)
        rw [norm1, if_neg h, norm, if_neg h, ← this]
        rfl
theorem repl_norm (l : List UInt8) : Lib.replaceAll (Lib.replaceAll l [13, 10] [10]) [13] [10] = norm l := by
  rw [repl1 l.length l (Nat.le_refl _), repl2, norm12 l.length l (Nat.le_refl _)]

/-! ### What may stand in a text. -/
/-- Whether a number may stand in a text. -/
def printable (r : Int) : Bool := decide (r = 9 ∨ r = 10 ∨ (32 ≤ r ∧ r ≤ 126) ∨ r = 133 ∨ (r ≠ 65279 ∧ ((160 ≤ r ∧ r ≤ 55295) ∨ (57344 ≤ r ∧ r ≤ 65533) ∨ (65536 ≤ r ∧ r ≤ 1114111))))
/-- A unit that may not stand there. -/
def wrongU (u : Nat × Nat × Nat) : Bool := (u.2.1 == 65533 && u.2.2 == 1) || (u.2.1 != 13 && !printable u.2.1)
def wrongOf (us : List (Nat × Nat × Nat)) : Int := match us.find? wrongU with | some u => (u.1 : Int) | none => -1
/-- The place of the first byte that may not stand there; -1. -/
def wrong (l : List UInt8) : Int := wrongOf (units 0 l)
theorem wrongOf_nil : wrongOf [] = -1 := rfl
theorem wrongOf_yes (u : Nat × Nat × Nat) (us : List (Nat × Nat × Nat)) (h : wrongU u = true) : wrongOf (u :: us) = u.1 := by
  simp [wrongOf, List.find?_cons_of_pos h]
theorem wrongOf_no (u : Nat × Nat × Nat) (us : List (Nat × Nat × Nat)) (h : wrongU u = false) : wrongOf (u :: us) = wrongOf us := by
  unfold wrongOf
  rw [List.find?_cons_of_neg (by simp [h])]
theorem wrongOf_le (l : List UInt8) (pos : Nat) : wrongOf (units pos l) < pos + l.length ∨ wrongOf (units pos l) = -1 := by
  unfold wrongOf
  split
  · rename_i u hu
    left
    have := unitsF_at l.length l pos u (List.mem_of_find?_eq_some hu)
    omega
  · right; rfl
theorem wrong_ge (l : List UInt8) : -1 ≤ wrong l := by
  unfold wrong wrongOf
  split <;> omega
theorem wrong_lt (l : List UInt8) : wrong l < l.length := by
  have := wrongOf_le l 0
  unfold wrong
  omega
theorem unitsF_ge (f : Nat) : ∀ (l : List UInt8) (pos : Nat), ∀ u ∈ unitsF f pos l, pos ≤ u.1 := by
  induction f with
  | zero => intro l pos u hu; simp [unitsF] at hu
  | succ f ih =>
    intro l pos u hu
    cases l with
    | nil => simp [unitsF] at hu
    | cons b t =>
      simp only [unitsF, List.mem_cons] at hu
      rcases hu with rfl | hu
      · exact Nat.le_refl _
      · have := ih _ _ u hu
        omega
theorem placeOf_ge (pos : Nat) (l : List UInt8) : placeOf (units pos l) = -1 ∨ (pos : Int) ≤ placeOf (units pos l) := by
  unfold placeOf
  split
  · rename_i u hu
    right
    have := unitsF_ge l.length l pos u (List.mem_of_find?_eq_some hu)
    omega
  · left; rfl

/-- The mark of UTF-8. -/
def bom : List UInt8 := [239, 187, 191]
/-- A text of bytes: the text, a place, an error's number. -/
def clean (l : List UInt8) : List UInt8 × Int × Int :=
  if 65536 < l.length then ([], 0, 2)
  else if 0 ≤ wrong (Lib.trimPrefix l bom) then ([], wrong (Lib.trimPrefix l bom) + l.length - (Lib.trimPrefix l bom).length, 3)
  else (norm (Lib.trimPrefix l bom), 0, 0)
theorem trim_le (l : List UInt8) : (Lib.trimPrefix l bom).length ≤ l.length := by
  unfold Lib.trimPrefix
  split
  · rw [List.length_drop]; omega
  · exact Nat.le_refl _
theorem norm_le (f : Nat) : ∀ l : List UInt8, l.length ≤ f → (norm l).length ≤ l.length := by
  induction f with
  | zero =>
    intro l hl
    have : l = [] := by cases l <;> simp_all
    subst this
    exact Nat.le_refl _
  | succ f ih =>
    intro l hl
    match l, hl with
    | [], _ => exact Nat.le_refl _
    | [b], _ => exact Nat.le_refl _
    | b :: c :: t, hl =>
      rw [norm]
      split
      · have := ih t (by simp at hl; omega)
        simp; omega
      · have := ih (c :: t) (by simpa using hl)
        simp at this ⊢; omega
theorem norm1_le (f : Nat) : ∀ l : List UInt8, l.length ≤ f → (norm1 l).length ≤ l.length := by
  induction f with
  | zero =>
    intro l hl
    have : l = [] := by cases l <;> simp_all
    subst this
    exact Nat.le_refl _
  | succ f ih =>
    intro l hl
    match l, hl with
    | [], _ => exact Nat.le_refl _
    | [b], _ => exact Nat.le_refl _
    | b :: c :: t, hl =>
      rw [norm1]
      split
      · have := ih t (by simp at hl; omega)
        simp; omega
      · have := ih (c :: t) (by simpa using hl)
        simp at this ⊢; omega
end U
end Go.Proofs.YtipcfdebbjfecaaDoor
