/- The walk of bosketlaw5.awake. -/
import Derived.Test.YtobojdkloblfbaaDoorWRefQuote
import Derived.Test.YtobojdkloblfbaaDoorWQuote
import Derived.Test.YtobojdkloblfbaaDoorWLow
namespace Go.Proofs.YtobojdkloblfbaaDoor
open Go.RowKit U Go.Proofs

set_option maxRecDepth 100000 in
set_option maxHeartbeats 4000000 in
theorem awake5_c (w : World) (hE : Env w) (hT : Tz w) : Calls Tryd.prog 16 #[] w fun e w' => e = .returned (.bool true) ∧ Below w.heap.size w w' := by
  have p1 : escM [92, 120, 52, 49] 0 = (65, 4, 0) := by decide +kernel
  have p2 : showM 9 = [92, 116] := by decide +kernel
  have p3 : quoteM [97, 39, 98] true = [39, 97, 39, 39, 98, 39] := by decide +kernel
  have p4 : quoteM [97] false = [34, 97, 34] := by decide +kernel
  have p5 : singleM [97] = true := by decide +kernel
  have p6 : singleM [10] = false := by decide +kernel
  have h1 := fun w => escRead_c [92, 120, 52, 49] 0 w (by decide) (by omega) (by omega)
  have h2 := fun w hT => show_c 9 w hT
  have h3 := fun w hE hT => quote_c [97, 39, 98] true w hE hT (by decide)
  have h4 := fun w hE hT => quote_c [97] false w hE hT (by decide)
  have h5 := fun w hE => single_c [97] w hE (by decide)
  have h6 := fun w hE => single_c [10] w hE (by decide)
  rw [p1] at h1
  rw [p2] at h2
  rw [p3] at h3
  rw [p4] at h4
  rw [p5] at h5
  rw [p6] at h6
  clear p1 p2 p3 p4 p5 p6
  have hA := At.refl hE
  go_enter Tryd.func16, Tryd.ntmps16
  go_wp2_with fail
  refine (h1 _).mono ?_
  rintro e w1 ⟨rfl, rfl⟩
  go_wp2_with fail
  refine (h2 _ (hT.below hA.below)).mono ?_
  rintro e w1 ⟨rfl, hb⟩
  have hA := hA.step hb
  clear hb
  go_wp2_with fail
  refine (h3 _ hA.env (hT.below hA.below)).mono ?_
  rintro e w1 ⟨rfl, hb⟩
  have hA := hA.step hb
  clear hb
  go_wp2_with fail
  refine (h4 _ hA.env (hT.below hA.below)).mono ?_
  rintro e w1 ⟨rfl, hb⟩
  have hA := hA.step hb
  clear hb
  go_wp2_with fail
  refine (h5 _ hA.env).mono ?_
  rintro e w1 ⟨rfl, hb⟩
  have hA := hA.step hb
  clear hb
  go_wp2_with fail
  refine (h6 _ hA.env).mono ?_
  rintro e w1 ⟨rfl, hb⟩
  have hA := hA.step hb
  clear hb
  go_wp2_with fail
  go_ret
  exact ⟨rfl, hA.below⟩
end Go.Proofs.YtobojdkloblfbaaDoor
