/- The walk of bosketlaw13.BlocDigits. -/
import Derived.Test.YtobojdkloblfbaaDoorLawBloc0
import Derived.Test.YtobojdkloblfbaaDoorLits
import Derived.Test.YtobojdkloblfbaaDoorPBloc6
import Derived.Test.YtobojdkloblfbaaDoorFrame
import Derived.Deep.RegionHeld3
namespace Go.Proofs.YtobojdkloblfbaaDoor
open Go.RowKit U Go.Proofs

attribute [local go_sem] ite_min' ite_max'
theorem digitB_at : ∀ n < 10, (([48, 49, 50, 51, 52, 53, 54, 55, 56, 57] : List UInt8).drop n).take 1 = [UInt8.ofNat (48 + n)] := by decide
set_option maxRecDepth 100000 in
set_option maxHeartbeats 1000000 in
theorem oneDigit_c (n : Nat) (x : UInt8) (w : World) (hn : n < 10) (hx : UInt8.ofNat (48 + n) = x) : Calls Tryd.prog 38 #[.int .i64 n] w fun e w' => e = .returned (.string ⟨#[x]⟩) ∧ w = w' := by
  rw [← hx]
  have hd := digitB_at n hn
  have hm : max (n : Int) 0 = n := by omega
  have HD := Lib.hid hd
  clear hd
  go_enter Tryd.func38, Tryd.ntmps38
  go_wp2_with fail
  go_ret
  exact ⟨ret_str HD.out, rfl⟩
/-- Since a world. -/
def NodeP (w0 W w : World) : Prop := At w0 w ∧ Below W.heap.size W w
theorem NodeP.step {w0 W w w' : World} (h : NodeP w0 W w) (hb : Below w.heap.size w w') : NodeP w0 W w' := ⟨h.1.step hb, h.2.trans (hb.mono h.2.size)⟩
theorem NodeP.drew {w0 W w : World} (h : NodeP w0 W w) : NodeP w0 W w.drew := ⟨h.1.drewN 1, below_drewN h.2 1⟩
theorem keepN {w0 W w : World} {g : Nat} {v : Value} (h : NodeP w0 W w) (HK : Hid (g < W.heap.size ∧ W.cell? ⟨g, 6, none⟩ = some v)) : NodeP w0 W w ∧ w.cell? ⟨g, 6, none⟩ = some v :=
  ⟨h, (h.2.cell (p := ⟨g, 6, none⟩) HK.out.1).trans HK.out.2⟩
set_option maxRecDepth 100000 in
set_option maxHeartbeats 8000000 in
theorem blocDigits_c (a b c f : Int) (w : World) (hE : Env w) (_a1 : -9223372036854775808 ≤ a) (_a2 : a ≤ 9223372036854775807) (_b1 : -9223372036854775808 ≤ b) (_b2 : b ≤ 9223372036854775807)
    (_c1 : -9223372036854775808 ≤ c) (_c2 : c ≤ 9223372036854775807) (_f1 : -9223372036854775808 ≤ f) (_f2 : f ≤ 9223372036854775807) :
    Calls Tryd.prog 13 #[.int .i64 a, .int .i64 b, .int .i64 c, .int .i64 f] w fun e w' => e = .returned (.bool true) ∧ Below w.heap.size w w' := by
  have hA := At.refl hE
  have hLd := fun w => lit_low a 9 (low a 9) w (by omega) (by omega) rfl
  have hLc := fun w => lit_low b 4 (low b 4) w (by omega) (by omega) rfl
  have hLm := fun w => lit_low c 4 (low c 4) w (by omega) (by omega) rfl
  have hLs := fun w => lit_low f 3 (low f 3) w (by omega) (by omega) rfl
  have hd := low_lt a 9 (by omega)
  have hc := low_lt b 4 (by omega)
  have hm := low_lt c 4 (by omega)
  have hs := low_lt f 3 (by omega)
  generalize low a 9 = d at *
  generalize low b 4 = n at *
  generalize low c 4 = m at *
  generalize low f 3 = s at *
  have hok := of_decide_eq_true (dig_all d hd n hc m hm s hs)
  obtain ⟨x, hx⟩ : ∃ x, UInt8.ofNat (48 + (1 + d)) = x := ⟨_, rfl⟩
  have hDi := fun w => oneDigit_c (1 + d) x w (by omega) hx
  rw [show ((1 + d : Nat) : Int) = 1 + (d : Int) by omega] at hDi
  have hW : (1 + (d : Int)) + max ((n : Int) - 1) 0 = (digW (1 + d) n : Int) := by unfold digW; omega
  have hWl : digW (1 + d) n ≤ 12 ∧ 1 ≤ digW (1 + d) n := by unfold digW; omega
  unfold digT digS at hok
  obtain ⟨W, hWW⟩ : ∃ W, digW (1 + d) n = W := ⟨_, rfl⟩
  rw [hWW] at hok hW hWl
  clear hWW
  have hB1 := fun w => blan_c (W + m) w (by omega)
  have hB2 := fun w => blan_c W w (by omega)
  have hB3 := fun w => blan_c (W - 1) w (by omega)
  have hB4 := fun w => blan_c m w (by omega)
  rw [show ((W + m : Nat) : Int) = (W : Int) + m by omega] at hB1
  rw [show ((W - 1 : Nat) : Int) = (W : Int) - 1 by omega] at hB3
  have l1 : (List.replicate (W + m) (32 : UInt8)).length ≤ 20 := by rw [List.length_replicate]; omega
  have l2 : (List.replicate W (32 : UInt8)).length ≤ 20 := by rw [List.length_replicate]; omega
  have l3 : (List.replicate (W - 1) (32 : UInt8)).length ≤ 20 := by rw [List.length_replicate]; omega
  have l4 : (List.replicate m (32 : UInt8)).length ≤ 20 := by rw [List.length_replicate]; omega
  generalize List.replicate (W + m) (32 : UInt8) = r1 at *
  generalize List.replicate W (32 : UInt8) = r2 at *
  generalize List.replicate (W - 1) (32 : UInt8) = r3 at *
  generalize List.replicate m (32 : UInt8) = r4 at *
  have hhd : digH (1 + d) s = ([[124, x], [124, 43, x], [124, x, 43]] : List (List UInt8)).getD s [] := by
    unfold digH
    rw [hx]
    rcases (show s = 0 ∨ s = 1 ∨ s = 2 by omega) with rfl | rfl | rfl <;> rfl
  have hhl : (digH (1 + d) s).length ≤ 3 := by
    unfold digH
    split
    · simp
    · split <;> simp
  have cs := lit_cell w 9 (strs [[124, x], [124, 43, x], [124, x, 43]]) s _ (lit_at (xs := [[124, x], [124, 43, x], [124, x, 43]]) hs)
  rw [← hhd] at cs
  change (w.alloc (.cells #[.string ⟨#[124, x]⟩, .string ⟨#[124, 43, x]⟩, .string ⟨#[124, x, 43]⟩] 9)).cell? ⟨w.heap.size, s, none⟩ = _ at cs
  have hA1 := hA.alloc (.cells #[.string ⟨#[124, x]⟩, .string ⟨#[124, 43, x]⟩, .string ⟨#[124, x, 43]⟩] 9)
  generalize digH (1 + d) s = hd at *
  have hs0 : (0 : Int) ≤ (s : Int) := by omega
  have hs3 : (s : Int) < 3 := by omega
  simp only [List.append_assoc, List.cons_append, List.nil_append] at hok
  have hrd := fun w => blread_c (hd ++ 10 :: (r1 ++ 97 :: 10 :: (r2 ++ 98 :: 10 :: (r3 ++ [99, 10])))) 0 ((n : Int) - 1) w (by simp; omega) (by omega) (by omega)
  obtain ⟨X, hXX⟩ : ∃ X, blocM (hd ++ 10 :: (r1 ++ 97 :: 10 :: (r2 ++ 98 :: 10 :: (r3 ++ [99, 10])))) 0 ((n : Int) - 1) = X := ⟨_, rfl⟩
  rw [hXX] at hrd hok
  obtain ⟨y, yp⟩ := X
  simp only [] at hrd hok
  obtain ⟨hok1, hok2⟩ := hok
  subst hok2
  have HOK := Lib.hid hok1
  clear hXX hok1
  have HX := Lib.hid hx
  clear hx hhd
  go_enter Tryd.func13, Tryd.ntmps13
  go_wp2_with fail
  refine (hLd _).mono ?_
  rintro e w1 ⟨rfl, hw1⟩
  obtain rfl := hw1.symm
  go_wp2_with fail
  refine (hLc _).mono ?_
  rintro e w1 ⟨rfl, hw1⟩
  obtain rfl := hw1.symm
  go_wp2_with fail
  refine (hLm _).mono ?_
  rintro e w1 ⟨rfl, hw1⟩
  obtain rfl := hw1.symm
  go_wp2_with fail
  refine (hDi _).mono ?_
  rintro e w1 ⟨rfl, rfl⟩
  go_wp2_with fail
  refine (hDi _).mono ?_
  rintro e w1 ⟨rfl, rfl⟩
  go_wp2_with fail
  refine (hDi _).mono ?_
  rintro e w1 ⟨rfl, rfl⟩
  go_wp2_with fail
  refine (hLs _).mono ?_
  rintro e w1 ⟨rfl, hw1⟩
  obtain rfl := hw1.symm
  generalize w.alloc (.cells #[.string ⟨#[124, x]⟩, .string ⟨#[124, 43, x]⟩, .string ⟨#[124, x, 43]⟩] 9) = w1 at *
  have hA := hA1
  clear hA1
  go_upto_region 4 with fail
  go_wp2_with fail
  refine (hB1 _).mono ?_
  rintro e w2 ⟨rfl, rfl⟩
  go_wp2_with fail
  refine (hB2 _).mono ?_
  rintro e w2 ⟨rfl, rfl⟩
  go_wp2_with fail
  refine (hB3 _).mono ?_
  rintro e w2 ⟨rfl, rfl⟩
  go_wp2_with fail
  refine (hrd _).mono ?_
  rintro e w3 ⟨rfl, hb3⟩
  have hA := (hA.step hb3).alloc (.cells (bnCells y).toArray 52)
  have hN := node_new w3 y
  have hg : w3.heap.size < (w3.alloc (.cells (bnCells y).toArray 52)).heap.size := by simp
  clear hrd hb3 hB1 hB2 hB3 hLd hLc hLm hLs hDi cs
  go_upto_region 7 with fail
  generalize w3.alloc (.cells (bnCells y).toArray 52) = w4 at *
  have y6 := hN.cell 6
  simp only [List.getElem?_cons_zero, List.getElem?_cons_succ] at y6
  rw [HOK.out] at y6
  generalize w3.heap.size = g at *
  have HK : Hid (g < w4.heap.size ∧ w4.cell? ⟨g, 6, none⟩ = some (.string ⟨(r4 ++ [97, 10, 98, 10]).toArray⟩)) := Lib.hid ⟨hg, y6⟩
  have hS : NodeP w w4 w4 := ⟨hA, Below.refl _ _⟩
  have hBS := fun (w2 : World) (h : NodeP w w4 w2) => (hB4 w2).mono (R' := fun e w' => e = .returned (.string ⟨r4.toArray⟩) ∧ NodeP w w4 w') (fun _ _ x => ⟨x.1, x.2 ▸ h⟩)
  have hAS := fun (w2 : World) (h : NodeP w w4 w2) => (awake13_c w2).mono (R' := fun e w' => e = .returned (.bool true) ∧ NodeP w w4 w') (fun _ _ x => ⟨x.1, h.step x.2⟩)
  have hs1 := fun (w : World) => run_string_add_sum (P := Tryd.prog) (w := w) ⟨r4.toArray⟩ ⟨#[97, 10, 98, 10]⟩ (by show r4.length + 4 ≤ _; omega)
  clear hN HOK hB4 hA
  go_region_held3 (fun w2 => NodeP w w4 w2 ∧ w2.cell? ⟨g, 6, none⟩ = some (.string ⟨(r4 ++ [97, 10, 98, 10]).toArray⟩)) (first | exact keepN (by first | assumption | exact And.left (by assumption)) HK | exact keepN (NodeP.drew (by first | assumption | exact And.left (by assumption))) HK) (first | (go_at_call 31; (with_reducible refine (hBS _ (by first | assumption | exact And.left (by assumption))).mono ?_); rintro e w5 ⟨rfl, hS5⟩) | (go_at_call 34; (with_reducible refine (hAS _ (by first | assumption | exact And.left (by assumption))).mono ?_); rintro e w5 ⟨rfl, hS5⟩))
  go_wp2_with fail
  go_ret
  exact ⟨rfl, hS5.1.below⟩
end Go.Proofs.YtobojdkloblfbaaDoor
