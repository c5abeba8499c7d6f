/- The walk of bosketlaw13.BlocTells. -/
import Derived.Test.YtobojdkloblfbaaDoorLawBlocSame
import Derived.Test.YtobojdkloblfbaaDoorLits
namespace Go.Proofs.YtobojdkloblfbaaDoor
open Go.RowKit U Go.Proofs

def tellH : List (List UInt8) := [[124], [62], [124, 45], [62, 43], [124, 50], [62, 49, 45], [124, 43, 51], [124, 32, 35, 32, 99]]
theorem tellH_ok : ∀ j < 8, (tellH.getD j []).length ≤ 5 := by decide
set_option maxRecDepth 100000 in
set_option maxHeartbeats 8000000 in
theorem blocTells_c (l : List UInt8) (a n f : Int) (w : World) (hE : Env w) (_hl : l.length ≤ 9223372036854775807) (_a1 : -9223372036854775808 ≤ a) (_a2 : a ≤ 9223372036854775807) (n1 : -9223372036854775808 ≤ n) (n2 : n ≤ 9223372036854775807)
    (_f1 : -9223372036854775808 ≤ f) (_f2 : f ≤ 9223372036854775807) :
    Calls Tryd.prog 9 #[.string ⟨l.toArray⟩, .int .i64 a, .int .i64 n, .int .i64 f] w fun e w' => e = .returned (.bool true) ∧ Below w.heap.size w w' := by
  have hA := At.refl hE
  by_cases hll : 100 < l.length
  · go_enter Tryd.func9, Tryd.ntmps9
    go_wp2_with (go_at_call 34; refine (awake13_c _).mono ?_; rintro e w1 ⟨rfl, hb⟩; have hA := hA.step hb; clear hb)
    go_ret
    exact ⟨rfl, hA.below⟩
  have hLn := fun w => lit_low n 4 (low n 4) w (by omega) (by omega) rfl
  have hLj := fun w => lit_low f 8 (low f 8) w (by omega) (by omega) rfl
  have hk := low_lt n 4 (by omega)
  have hj := low_lt f 8 (by omega)
  generalize low n 4 = k at *
  generalize low f 8 = j at *
  have cj := lit_cell w 9 (strs tellH) j _ (lit_at (xs := tellH) hj)
  change (w.alloc (.cells #[.string ⟨#[124]⟩, .string ⟨#[62]⟩, .string ⟨#[124, 45]⟩, .string ⟨#[62, 43]⟩, .string ⟨#[124, 50]⟩, .string ⟨#[62, 49, 45]⟩, .string ⟨#[124, 43, 51]⟩, .string ⟨#[124, 32, 35, 32, 99]⟩] 9)).cell? ⟨w.heap.size, j, none⟩ = _ at cj
  have hpl := tellH_ok j hj
  generalize tellH.getD j [] = hd at *
  have hA1 := hA.alloc (.cells #[.string ⟨#[124]⟩, .string ⟨#[62]⟩, .string ⟨#[124, 45]⟩, .string ⟨#[62, 43]⟩, .string ⟨#[124, 50]⟩, .string ⟨#[62, 49, 45]⟩, .string ⟨#[124, 43, 51]⟩, .string ⟨#[124, 32, 35, 32, 99]⟩] 9)
  have hj0 : (0 : Int) ≤ (j : Int) := by omega
  have hj8 : (j : Int) < 8 := by omega
  go_enter Tryd.func9, Tryd.ntmps9
  go_wp2_with fail
  refine (hLn _).mono ?_
  rintro e w1 ⟨rfl, hw1⟩
  obtain rfl := hw1.symm
  go_wp2_with fail
  refine (hLj _).mono ?_
  rintro e w1 ⟨rfl, hw1⟩
  obtain rfl := hw1.symm
  generalize w.alloc (.cells #[.string ⟨#[124]⟩, .string ⟨#[62]⟩, .string ⟨#[124, 45]⟩, .string ⟨#[62, 43]⟩, .string ⟨#[124, 50]⟩, .string ⟨#[62, 49, 45]⟩, .string ⟨#[124, 43, 51]⟩, .string ⟨#[124, 32, 35, 32, 99]⟩] 9) = w1 at *
  have hA := hA1
  clear hA1 hLn hLj
  go_wp2_with fail
  clear cj
  refine (same13_c l a n _ (by omega) (by omega) (by omega)).mono ?_
  rintro e w3 ⟨rfl, hb⟩
  have hA := hA.step hb
  clear hb
  go_wp2_with fail
  refine (same13_c l 0 _ _ (by omega) (by omega) (by omega)).mono ?_
  rintro e w4 ⟨rfl, hb⟩
  have hA := hA.step hb
  clear hb
  go_wp2_with fail
  refine (same13_c _ 0 n _ (by simp; omega) (by omega) (by omega)).mono ?_
  rintro e w5 ⟨rfl, hb⟩
  have hA := hA.step hb
  clear hb
  go_wp2_with fail
  refine (same13_c _ 0 _ _ (by simp; omega) (by omega) (by omega)).mono ?_
  rintro e w6 ⟨rfl, hb⟩
  have hA := hA.step hb
  clear hb
  go_wp2_with fail
  refine (same13_c _ 0 _ _ (by simp; omega) (by omega) (by omega)).mono ?_
  rintro e w7 ⟨rfl, hb⟩
  have hA := hA.step hb
  clear hb
  go_wp2_with fail
  refine (same13_c _ 3 _ _ (by simp; omega) (by omega) (by omega)).mono ?_
  rintro e w8 ⟨rfl, hb⟩
  have hA := hA.step hb
  clear hb
  go_wp2_with fail
  refine (awake13_c _).mono ?_
  rintro e w9 ⟨rfl, hb⟩
  have hA := hA.step hb
  clear hb
  go_wp2_with fail
  go_ret
  exact ⟨rfl, hA.below⟩
end Go.Proofs.YtobojdkloblfbaaDoor
