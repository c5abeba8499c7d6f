/- How long a tag at a text's beginning is (chapter 9). No program in sight. -/
import Derived.Test.YtjnmgmepolpcdaaDoorPHand
import Derived.Test.YtjnmgmepolpcdaaDoorPCore
namespace Go.Proofs.YtjnmgmepolpcdaaDoor
namespace U
open Go

theorem handleM_le (l : List UInt8) : handleM l ≤ l.length := by
  unfold handleM
  split
  · omega
  · exact Nat.zero_le _
/-- A tag that is no one in full. -/
def sizeR (l : List UInt8) : Nat := if 0 < handleM l ∧ 0 < urisM true (l.drop (handleM l)) then handleM l + urisM true (l.drop (handleM l)) else 1 + urisM true (l.drop 1)
/-- How many bytes are a tag. -/
def sizeM (l : List UInt8) : Nat :=
  if l = [] ∨ byt l 0 ≠ 33 then 0
  else if pre2 33 60 l = true ∧ 0 < urisM false (l.drop 2) ∧ [62].isPrefixOf ((l.drop 2).drop (urisM false (l.drop 2))) = true then urisM false (l.drop 2) + 3
  else sizeR l
theorem sizeM_le (l : List UInt8) : sizeM l ≤ l.length + 3 := by
  have h1 := urisM_le true (l.drop (handleM l))
  have h2 := urisM_le true (l.drop 1)
  have h3 := urisM_le false (l.drop 2)
  have h4 := handleM_le l
  rw [List.length_drop] at h1 h2 h3
  unfold sizeM sizeR
  split
  · omega
  · split
    · omega
    · split <;> omega
end U
end Go.Proofs.YtjnmgmepolpcdaaDoor
