/- The walks of package sign. -/
import Derived.Test.YtobojdkloblfbaaDoorBase
import Derived.Test.YtobojdkloblfbaaDoorPSign
namespace Go.Proofs.YtobojdkloblfbaaDoor
open Go.RowKit U Go.Proofs

set_option maxRecDepth 100000 in
set_option maxHeartbeats 1000000 in
theorem white_c (b : Nat) (w : World) (hb : b < 256) : Calls Tryd.prog 102 #[.int .u8 b] w fun e w' => e = .returned (.bool (whN b)) ∧ w = w' := by
  unfold whN
  go_enter Tryd.func102, Tryd.ntmps102
  go_wp2
  all_goals (go_ret; refine ⟨ret_bool ?_, rfl⟩)
  all_goals (rw [Bool.eq_iff_iff]; simp at *; omega)
end Go.Proofs.YtobojdkloblfbaaDoor
