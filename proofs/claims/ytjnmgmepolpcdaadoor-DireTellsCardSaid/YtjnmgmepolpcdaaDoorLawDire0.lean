/- The walk of bosketlaw10.awake. -/
import Derived.Test.YtjnmgmepolpcdaaDoorWTwice
namespace Go.Proofs.YtjnmgmepolpcdaaDoor
open Go.RowKit U Go.Proofs

set_option maxRecDepth 100000 in
set_option maxHeartbeats 2000000 in
theorem awake10_c (w : World) (hE : Env w) : Calls Tryd.prog 32 #[] w fun e w' => e = .returned (.bool true) ∧ Below w.heap.size w w' := by
  have p1 : readM [37, 84, 65, 71, 32, 32, 33, 32, 120, 58, 32, 35, 32, 99] = ([37, 84, 65, 71, 32, 33, 32, 120, 58], [32, 99], true, 0) := by decide +kernel
  have p2 : readM [37, 89, 65, 77, 76, 32, 50, 46, 48] = ([], [], false, 5) := by decide +kernel
  have p3 : twiceM [[37, 89, 65, 77, 76, 32, 49, 46, 49]] [37, 89, 65, 77, 76, 32, 49, 46, 50] = true := by decide +kernel
  have P1 := Lib.hid p1
  have P2 := Lib.hid p2
  have P3 := Lib.hid p3
  clear p1 p2 p3
  have hA := At.refl hE
  go_enter Tryd.func32, Tryd.ntmps32
  go_wp2_with fail
  refine (read_c [37, 84, 65, 71, 32, 32, 33, 32, 120, 58, 32, 35, 32, 99] _ hA.env (by decide)).mono ?_
  rw [P1.out]
  rintro e w1 ⟨rfl, hb⟩
  have hA := hA.step hb
  clear hb
  go_wp2_with fail
  refine (read_c [37, 89, 65, 77, 76, 32, 50, 46, 48] _ hA.env (by decide)).mono ?_
  rw [P2.out]
  rintro e w2 ⟨rfl, hb⟩
  have hA := hA.step hb
  clear hb
  go_wp2_with fail
  have hA := hA.alloc (.cells #[.string ⟨#[37, 89, 65, 77, 76, 32, 49, 46, 49]⟩] 9)
  refine (twice_c [[37, 89, 65, 77, 76, 32, 49, 46, 49]] _ [37, 89, 65, 77, 76, 32, 49, 46, 50] _ hA.env (sl_new (w := w2) (e := 9) (strs [[37, 89, 65, 77, 76, 32, 49, 46, 49]]) (by simp [strs])) (by decide) (by decide) (by decide)).mono ?_
  rw [P3.out]
  rintro e w3 ⟨rfl, hb⟩
  have hA := hA.step hb
  clear hb
  go_wp2_with fail
  go_ret
  exact ⟨rfl, hA.below⟩
end Go.Proofs.YtjnmgmepolpcdaaDoor
