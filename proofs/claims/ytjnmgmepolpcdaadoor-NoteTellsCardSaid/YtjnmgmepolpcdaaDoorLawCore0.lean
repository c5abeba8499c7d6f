/- The walk of bosketlaw8.awake. -/
import Derived.Test.YtjnmgmepolpcdaaDoorWTag
import Derived.Test.YtjnmgmepolpcdaaDoorWRefTag
namespace Go.Proofs.YtjnmgmepolpcdaaDoor
open Go.RowKit U Go.Proofs

set_option maxRecDepth 100000 in
set_option maxHeartbeats 1000000 in
theorem awake8_c (w : World) (_hE : Env w) : Calls Tryd.prog 15 #[] w fun e w' => e = .returned (.bool true) ∧ Below w.heap.size w w' := by
  have p1 : coreP [48, 120, 49, 70] = [105, 110, 116] := by decide
  have p2 : coreP [49, 46] = [102, 108, 111, 97, 116] := by decide
  have p3 : coreP [43, 48, 120, 49] = [115, 116, 114] := by decide
  have p4 : coreP [] = [110, 117, 108, 108] := by decide
  have P1 := Lib.hid p1
  have P2 := Lib.hid p2
  have P3 := Lib.hid p3
  have P4 := Lib.hid p4
  clear p1 p2 p3 p4
  have hb := Below.refl w.heap.size w
  go_enter Tryd.func15, Tryd.ntmps15
  go_wp2_with fail
  refine (coreLong_c [120] _ (by decide)).mono ?_
  rintro e w1 ⟨rfl, rfl⟩
  go_wp2_with fail
  refine (tag_c [48, 120, 49, 70] _ (by decide)).mono ?_
  rw [P1.out]
  rintro e w1 ⟨rfl, hb1⟩
  have hb := hb.trans (hb1.mono hb.size)
  clear hb1
  go_wp2_with fail
  refine (coreLong_c [105, 110, 116] _ (by decide)).mono ?_
  rintro e w1 ⟨rfl, rfl⟩
  go_wp2_with fail
  refine (tag_c [49, 46] _ (by decide)).mono ?_
  rw [P2.out]
  rintro e w1 ⟨rfl, hb1⟩
  have hb := hb.trans (hb1.mono hb.size)
  clear hb1
  go_wp2_with fail
  refine (coreLong_c [102, 108, 111, 97, 116] _ (by decide)).mono ?_
  rintro e w1 ⟨rfl, rfl⟩
  go_wp2_with fail
  refine (tag_c [43, 48, 120, 49] _ (by decide)).mono ?_
  rw [P3.out]
  rintro e w1 ⟨rfl, hb1⟩
  have hb := hb.trans (hb1.mono hb.size)
  clear hb1
  go_wp2_with fail
  refine (coreLong_c [115, 116, 114] _ (by decide)).mono ?_
  rintro e w1 ⟨rfl, rfl⟩
  go_wp2_with fail
  refine (tag_c [] _ (by decide)).mono ?_
  rw [P4.out]
  rintro e w1 ⟨rfl, hb1⟩
  have hb := hb.trans (hb1.mono hb.size)
  clear hb1
  go_wp2_with fail
  refine (coreLong_c [110, 117, 108, 108] _ (by decide)).mono ?_
  rintro e w1 ⟨rfl, rfl⟩
  go_wp2_with fail
  go_ret
  exact ⟨rfl, hb⟩
end Go.Proofs.YtjnmgmepolpcdaaDoor
