/- The walk of bosketlaw3.awake. -/
import Derived.Test.YtipcfdebbjfecaaWSpot
namespace Go.Proofs.Ytipcfdebbjfecaa
open Go.RowKit U Go.Proofs

set_option maxRecDepth 100000 in
set_option maxHeartbeats 1000000 in
theorem awake3_c (w : World) (hE : Env w) :
    Calls Try.prog 5 #[] w fun e w' => e = .returned (.bool true) ∧ Below w.heap.size w w' := by
  have p1 : at' [195, 169, 10, 97, 98] (held [195, 169, 10, 97, 98] 4) = (2, 2) := by decide
  have p2 : back [97, 10, 98] 2 1 = (2, true) := by decide
  have p3 : lf [97, 10] = 1 := by decide
  have P1 := Lib.hid p1
  have P2 := Lib.hid p2
  have P3 := Lib.hid p3
  clear p1 p2 p3
  have hA := At.refl hE
  go_enter Try.func5, Try.ntmps5
  go_wp2_with (first | (go_at_call 6; refine (spotAt_c _ _ _ (by decide) (by decide) (by decide)).mono ?_; rw [P1.out]; rintro e w1 ⟨rfl, hb⟩; have hA := hA.step hb; clear hb) | (go_at_call 8; refine (spotBack_c _ _ _ _ (by decide)).mono ?_; rw [P2.out]; rintro e w1 ⟨rfl, hb⟩; have hA := hA.step hb; clear hb) | (go_at_call 11; refine (spotLines_c _ _ (by decide)).mono ?_; rw [P3.out]; rintro e w1 ⟨rfl, rfl⟩))
  go_ret
  exact ⟨rfl, hA.below⟩
end Go.Proofs.Ytipcfdebbjfecaa
