/- Comments in memory. -/
import Derived.Test.YtjnmgmepolpcdaaDoorPNote
import Derived.Test.YtjnmgmepolpcdaaDoorFrame
namespace Go.Proofs.YtjnmgmepolpcdaaDoor
open Go.RowKit U Go.Proofs

/-- Comments as cells. -/
def cmts (xs : Notes) : List Value := xs.flatMap fun x => [.string ⟨x.1.toArray⟩, .int .i64 x.2]
theorem cmts_snoc (xs : Notes) (t : List UInt8) (n : Nat) : cmts (xs ++ [(t, n)]) = cmts xs ++ [.string ⟨t.toArray⟩, .int .i64 n] := by simp [cmts]
theorem Tryd.infoComment : (Tryd.prog.info? 38).map (fun i => (i.zero, i.size, i.bytes)) = some (some (.agg #[.string ⟨#[]⟩, .int .i64 0]), 2, 24) := by kernel_rfl
end Go.Proofs.YtjnmgmepolpcdaaDoor
