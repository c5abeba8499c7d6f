/- The walk of bosketlaw2.awake. -/
import Derived.Test.YtipcfdebbjfecaaDoorWClean
import Derived.Lib.SlBytesConst
namespace Go.Proofs.YtipcfdebbjfecaaDoor
open Go.RowKit U Go.Proofs

theorem sl_const {w : World} {e : TypeId} {fr : Nat × Nat} (l : List UInt8) (n : Nat) (hn : n = l.length) (h : l ≠ []) (C : Array Value) (hC : C.toList = Lib.byteCells l) : Sl (w.alloc (.cells C e fr)) (.slice (some ⟨w.heap.size, 0, none⟩) n n) (Lib.byteCells l) := by
  subst hn
  have hl : (Lib.byteCells l).length = l.length := by simp [Lib.byteCells]
  refine Or.inr ⟨w.heap.size, 0, l.length, by intro hh; rw [hh] at hl; exact h (List.eq_nil_of_length_eq_zero hl.symm), by rw [hl], by simp, fun i x hx => ?_⟩
  have hi : C[i]? = some x := by rw [← Array.getElem?_toList, hC]; exact hx
  simp [World.cell?, World.alloc, -World.alloc_eq, hi]

set_option maxRecDepth 100000 in
set_option maxHeartbeats 1000000 in
theorem awake2_c (w : World) (hE : Env w) :
    Calls Tryd.prog 33 #[] w fun e w' => e = .returned (.bool true) ∧ Below w.heap.size w w' := by
  have p1 : clean [97, 13, 10, 98, 13] = ([97, 10, 98, 10], 0, 0) := by decide
  have p2 : clean [13, 1] = ([], 1, 3) := by decide
  have p3 : printable 97 = true := by decide
  have p4 : printable 65279 = false := by decide
  have P1 := Lib.hid p1
  have P2 := Lib.hid p2
  have P3 := Lib.hid p3
  have P4 := Lib.hid p4
  clear p1 p2 p3 p4
  have hcv := fun (W : World) (C : Array Value) (n c : Nat) => Lib.run_convert_bytes_const (P := Tryd.prog) W 41 5 C n c Tryd.underlying41 Tryd.underlying5
  have hA := At.refl hE
  go_enter Tryd.func33, Tryd.ntmps33
  go_wp2_with fail
  have hA := hA.alloc (.cells #[.int .u8 97, .int .u8 13, .int .u8 10, .int .u8 98, .int .u8 13] 5 (5, 6))
  refine (clean_c [97, 13, 10, 98, 13] _ _ hA.env (sl_const _ 5 rfl (by decide) _ rfl) (by decide)).mono ?_
  rw [P1.out]
  rintro e w1 ⟨rfl, hb⟩
  have hA := hA.step hb
  clear hb
  go_wp2_with fail
  have hA := hA.alloc (.cells #[.int .u8 13, .int .u8 1] 5 (2, 3))
  refine (clean_c [13, 1] _ _ hA.env (sl_const _ 2 rfl (by decide) _ rfl) (by decide)).mono ?_
  rw [P2.out]
  rintro e w1 ⟨rfl, hb⟩
  have hA := hA.step hb
  clear hb
  go_wp2_with fail
  refine (printable_c 97 _).mono ?_
  rw [P3.out]
  rintro e w1 ⟨rfl, rfl⟩
  go_wp2_with fail
  refine (printable_c 65279 _).mono ?_
  rw [P4.out]
  rintro e w1 ⟨rfl, rfl⟩
  go_wp2_with fail
  go_ret
  exact ⟨rfl, hA.below⟩
end Go.Proofs.YtipcfdebbjfecaaDoor
