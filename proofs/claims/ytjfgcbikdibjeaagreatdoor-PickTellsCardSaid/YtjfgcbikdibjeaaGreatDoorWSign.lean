/- The walks of package sign. -/
import Derived.Test.YtjfgcbikdibjeaaGreatDoorBase
import Derived.Test.YtjfgcbikdibjeaaGreatDoorPAllA
namespace Go.Proofs.YtjfgcbikdibjeaaGreatDoor
open Go.RowKit U Go.Proofs

set_option maxRecDepth 100000 in
set_option maxHeartbeats 1000000 in
theorem white_c (b : Nat) (w : World) (hb : b < 256) : Calls Tryz.prog 83 #[.int .u8 b] w fun e w' => e = .returned (.bool (whN b)) ∧ w = w' := by
  unfold whN
  go_enter Tryz.func83, Tryz.ntmps83
  go_wp2
  all_goals (go_ret; refine ⟨ret_bool ?_, rfl⟩)
  all_goals (rw [Bool.eq_iff_iff]; simp at *; omega)
set_option maxRecDepth 100000 in
set_option maxHeartbeats 1000000 in
theorem flow_c (b : Nat) (w : World) (_hb : b < 256) : Calls Tryz.prog 23 #[.int .u8 b] w fun e w' => e = .returned (.bool (flowN b)) ∧ w = w' := by
  unfold flowN
  go_enter Tryz.func23, Tryz.ntmps23
  go_wp2
  all_goals (go_ret; refine ⟨ret_bool ?_, rfl⟩)
  all_goals (rw [Bool.eq_iff_iff]; simp at *; omega)
end Go.Proofs.YtjfgcbikdibjeaaGreatDoor
