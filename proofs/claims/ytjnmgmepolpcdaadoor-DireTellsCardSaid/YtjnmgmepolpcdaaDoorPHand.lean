/- Tags and their handles (chapter 9): how long they are. No program in sight. -/
import Derived.Test.YtjnmgmepolpcdaaDoorPSign
namespace Go.Proofs.YtjnmgmepolpcdaaDoor
namespace U
open Go

/-- Two hex digits stand behind the first byte. -/
def pctN (m : List UInt8) : Bool := decide (3 ≤ m.length) && hexN (byt m 1) && hexN (byt m 2)
/-- May a text's first byte stand among Uris? -/
def stepB (tight : Bool) (m : List UInt8) : Bool := uriN (byt m 0) && (byt m 0 != 37 || pctN m) && !(tight && (byt m 0 == 33 || flowN (byt m 0)))
/-- How many bytes are Uris. -/
def urisM (tight : Bool) : List UInt8 → Nat
  | [] => 0
  | b :: t => if stepB tight (b :: t) then 1 + urisM tight t else 0
theorem urisM_at (tight : Bool) {l : List UInt8} {k : Nat} (h : k < l.length) : urisM tight (l.drop k) = if stepB tight (l.drop k) = true then 1 + urisM tight (l.drop (k + 1)) else 0 := by
  rw [List.drop_eq_getElem_cons h, urisM]
theorem urisM_le (tight : Bool) : ∀ l : List UInt8, urisM tight l ≤ l.length := by
  intro l
  induction l with
  | nil => exact Nat.le_refl _
  | cons b t ih =>
    rw [urisM]
    split
    · simp; omega
    · exact Nat.zero_le _
/-- How many bytes are of a word. -/
def wordsLen : List UInt8 → Nat
  | [] => 0
  | b :: t => if wordN b.toNat then 1 + wordsLen t else 0
theorem wordsLen_at {l : List UInt8} {k : Nat} (h : k < l.length) : wordsLen (l.drop k) = if wordN (byt l k) = true then 1 + wordsLen (l.drop (k + 1)) else 0 := by
  rw [List.drop_eq_getElem_cons h, wordsLen, byt_get l k h]
theorem wordsLen_le : ∀ l : List UInt8, wordsLen l ≤ l.length := by
  intro l
  induction l with
  | nil => exact Nat.le_refl _
  | cons b t ih =>
    rw [wordsLen]
    split
    · simp; omega
    · exact Nat.zero_le _
/-- How many bytes at a text's beginning, a !, are a handle that ends with a second one; 0: none. -/
def handleM (l : List UInt8) : Nat := if 1 + wordsLen (l.drop 1) < l.length ∧ byt l (1 + wordsLen (l.drop 1)) = 33 then 1 + wordsLen (l.drop 1) + 1 else 0
end U
end Go.Proofs.YtjnmgmepolpcdaaDoor
