/- The walks of package sign. -/
import Derived.Test.YtjnmgmepolpcdaaDoorBase
import Derived.Test.YtjnmgmepolpcdaaDoorPSign
namespace Go.Proofs.YtjnmgmepolpcdaaDoor
open Go.RowKit U Go.Proofs

set_option maxRecDepth 100000 in
set_option maxHeartbeats 1000000 in
theorem white_c (b : Nat) (w : World) (hb : b < 256) : Calls Tryd.prog 51 #[.int .u8 b] w fun e w' => e = .returned (.bool (whN b)) ∧ w = w' := by
  unfold whN
  go_enter Tryd.func51, Tryd.ntmps51
  go_wp2
  all_goals (go_ret; refine ⟨ret_bool ?_, rfl⟩)
  all_goals (rw [Bool.eq_iff_iff]; simp at *; omega)
set_option maxRecDepth 100000 in
set_option maxHeartbeats 1000000 in
theorem flow_c (b : Nat) (w : World) (hb : b < 256) : Calls Tryd.prog 113 #[.int .u8 b] w fun e w' => e = .returned (.bool (flowN b)) ∧ w = w' := by
  unfold flowN
  go_enter Tryd.func113, Tryd.ntmps113
  go_wp2
  all_goals (go_ret; refine ⟨ret_bool ?_, rfl⟩)
  all_goals (rw [Bool.eq_iff_iff]; simp at *; omega)
set_option maxRecDepth 100000 in
set_option maxHeartbeats 1000000 in
theorem sword_c (b : Nat) (w : World) (hb : b < 256) : Calls Tryd.prog 144 #[.int .u8 b] w fun e w' => e = .returned (.bool (wordN b)) ∧ w = w' := by
  unfold wordN
  go_enter Tryd.func144, Tryd.ntmps144
  go_wp2
  all_goals (go_ret; refine ⟨ret_bool ?_, rfl⟩)
  all_goals (rw [Bool.eq_iff_iff]; simp at *; omega)
end Go.Proofs.YtjnmgmepolpcdaaDoor
