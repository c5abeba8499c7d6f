/- The walk of bosketref1.Printable. -/
import Derived.Test.YtjfgcbikdibjeaaGreatDoorBase
import Derived.Test.YtjfgcbikdibjeaaGreatDoorPAllA
namespace Go.Proofs.YtjfgcbikdibjeaaGreatDoor
open Go.RowKit U Go.Proofs

set_option maxRecDepth 100000 in
set_option maxHeartbeats 1000000 in
theorem refPrintable_c (r : Int) (w : World) :
    Calls Tryz.prog 54 #[.int .i32 r] w fun e w' => e = .returned (.bool (printable r)) ∧ w = w' := by
  go_enter Tryz.func54, Tryz.ntmps54
  go_wp2
  all_goals (go_ret; refine ⟨ret_bool ?_, rfl⟩; unfold printable)
  all_goals simp only [beq_iff_eq, beq_eq_false_iff_ne, ne_eq] at *
  all_goals
    rw [Bool.eq_iff_iff]
    simp only [decide_eq_true_eq, bne_iff_ne, ne_eq, reduceCtorEq, true_iff, false_iff]
    omega
end Go.Proofs.YtjfgcbikdibjeaaGreatDoor
