/- The walks of package core. -/
import Derived.Test.YtobojdkloblfbaaDoorBase
import Derived.Test.YtobojdkloblfbaaDoorPCore
import Derived.Test.YtobojdkloblfbaaDoorShelf
import Derived.Shelf.Strings.SlTrimAscii
namespace Go.Proofs.YtobojdkloblfbaaDoor
open Go.RowKit U Go.Proofs

theorem toList_mk (l : List UInt8) : (⟨l.toArray⟩ : ByteArray).toList = l := by rw [Lib.toList_data]
attribute [go_sem] toList_mk

/-! ### Cutsets. -/
theorem trimR_all (p : UInt8 → Bool) (l : List UInt8) (h : (l.reverse.dropWhile p).reverse.all p = true) : l.all p = true := by
  cases hr : l.reverse.dropWhile p with
  | nil =>
    have := (dropWhile_nil_iff p l.reverse).1 hr
    simpa using this
  | cons b t =>
    exfalso
    have h1 : p b = true := by rw [hr] at h; simp at h; exact h.2
    have h2 := List.head_dropWhile_not p (l := l.reverse) (by rw [hr]; simp)
    simp only [hr, List.head_cons] at h2
    rw [h1] at h2
    cases h2
theorem trimS_nil (l cs : List UInt8) : (Lib.trimS l cs == []) = l.all (cs.contains ·) := by
  rw [Bool.eq_iff_iff, beq_iff_eq]
  constructor
  · intro h
    exact trimR_all _ l ((dropWhile_nil_iff _ _).1 h)
  · intro h
    have h2 : Lib.trimRightS l cs = [] := by
      unfold Lib.trimRightS
      rw [(dropWhile_nil_iff _ _).2 (by simpa using h)]
      rfl
    unfold Lib.trimS
    rw [h2]
    rfl
theorem byte_all {p q : UInt8 → Bool} (h : ∀ n : Fin 256, p (UInt8.ofNat n.1) = q (UInt8.ofNat n.1)) : p = q := by
  funext b
  have := h ⟨b.toNat, b.toNat_lt⟩
  simpa using this
def cs8 : List UInt8 := [48, 49, 50, 51, 52, 53, 54, 55]
def cs10 : List UInt8 := [48, 49, 50, 51, 52, 53, 54, 55, 56, 57]
def cs16 : List UInt8 := [48, 49, 50, 51, 52, 53, 54, 55, 56, 57, 97, 98, 99, 100, 101, 102, 65, 66, 67, 68, 69, 70]
theorem cs8_p : (fun b => cs8.contains b) = oct8 := byte_all (by decide +kernel)
theorem cs10_p : (fun b => cs10.contains b) = dec10 := byte_all (by decide +kernel)
theorem cs16_p : (fun b => cs16.contains b) = hex16 := byte_all (by decide +kernel)

theorem emp_no {l : List UInt8} (h : l ≠ []) : l.isEmpty = false := by cases l with | nil => exact absurd rfl h | cons b t => rfl
theorem unsign_byt (l : List UInt8) : unsign l = if l ≠ [] ∧ (byt l 0 = 43 ∨ byt l 0 = 45) then l.drop 1 else l := by
  cases l with
  | nil => rfl
  | cons b t =>
    have h1 : byt (b :: t) 0 = b.toNat := rfl
    have h43 : b = 43 ↔ b.toNat = 43 := ⟨fun h => by rw [h]; rfl, fun h => UInt8.toNat.inj h⟩
    have h45 : b = 45 ↔ b.toNat = 45 := ⟨fun h => by rw [h]; rfl, fun h => UInt8.toNat.inj h⟩
    simp only [unsign, h1, h43, h45]
    by_cases h : b.toNat = 43 ∨ b.toNat = 45
    · rw [if_pos h, if_pos ⟨by simp, h⟩]; rfl
    · rw [if_neg h, if_neg (fun hh => h hh.2)]
theorem unsign_len (l : List UInt8) : (unsign l).length ≤ l.length := by
  rw [unsign_byt]
  split
  · rw [List.length_drop]; omega
  · exact Nat.le_refl _
theorem expo_byt (k : Nat) {r : List UInt8} (h : r ≠ []) : expo k r = if byt r 0 = 101 ∨ byt r 0 = 69 then (if allOf dec10 (unsign r.tail) = true then 2 else 0) else 0 := by
  cases r with
  | nil => exact absurd rfl h
  | cons b t =>
    have h1 : byt (b :: t) 0 = b.toNat := rfl
    have h43 : b = 101 ↔ b.toNat = 101 := ⟨fun h => by rw [h]; rfl, fun h => UInt8.toNat.inj h⟩
    have h45 : b = 69 ↔ b.toNat = 69 := ⟨fun h => by rw [h]; rfl, fun h => UInt8.toNat.inj h⟩
    rw [expo_cons, h1]
    simp only [h43, h45]
    rfl
theorem numR_yes (a : Bool) {r : List UInt8} (h : [46].isPrefixOf r = true) : numR a r = if a && ((r.drop 1).takeWhile dec10).isEmpty then 0 else expo 2 ((r.drop 1).dropWhile dec10) := by
  obtain ⟨t, ht⟩ := List.isPrefixOf_iff_prefix.1 h
  subst ht
  exact numR_cons a 46 t
theorem numR_no (a : Bool) {r : List UInt8} (h : [46].isPrefixOf r = false) (hr : r ≠ [] ∨ a = false) : numR a r = if a then 0 else expo 1 r := by
  cases r with
  | nil => rcases hr with hr | rfl
           · exact absurd rfl hr
           · rfl
  | cons b t =>
    rw [numR_cons, if_neg]
    rintro rfl
    simp [List.isPrefixOf] at h
theorem emp_len {α : Type} (y : List α) : y.isEmpty = decide (y.length = 0) := by cases y <;> simp
end Go.Proofs.YtobojdkloblfbaaDoor
