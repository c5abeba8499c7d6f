/- A row of numbers of one byte, as bytes. -/
import Derived.Test.YtipcfdebbjfecaaDoorBase
namespace Go.Proofs.YtipcfdebbjfecaaDoor
open Go.RowKit U Go.Proofs

theorem bytes_of (xs : List Int) (h : ∀ x ∈ xs, (Lit.int .u8 x).wf = true) : ∃ l : List UInt8, (xs.map fun x : Int => Value.int .u8 x) = Lib.byteCells l ∧ l.length = xs.length := by
  refine ⟨xs.map fun x => x.toNat.toUInt8, ?_, by simp⟩
  unfold Lib.byteCells
  rw [List.map_map]
  apply List.map_congr_left
  intro x hx
  have hb : 0 ≤ x ∧ x ≤ 255 := by simpa [Lit.wf, IntKind.min, IntKind.max, IntKind.signed, IntKind.bits] using h x hx
  simp only [Function.comp]
  rw [show (x.toNat.toUInt8).toNat = x.toNat by simp; omega]
  congr 1
  omega
end Go.Proofs.YtipcfdebbjfecaaDoor
