/- The walk of bosketlaw13.BlocWrong. -/
import Derived.Test.YtobojdkloblfbaaDoorLawBloc0
import Derived.Test.YtobojdkloblfbaaDoorLits
namespace Go.Proofs.YtobojdkloblfbaaDoor
open Go.RowKit U Go.Proofs

def wrongH : List (List UInt8) := [[124, 48], [124, 45, 45], [124, 49, 50], [124, 43, 45], [62, 97], [124, 32, 97], [124, 49, 43, 50], [124, 35], [124, 43, 32, 45]]
def wrongA : List Int := [1, 2, 2, 2, 1, 2, 3, 1, 3]
theorem wrong_all : ∀ k < 9, (blocM (wrongH.getD k [] ++ [10, 32, 97, 10]) 0 0).2 = (wrongA.getD k 0, 5) ∧ (wrongH.getD k []).length ≤ 4 := by decide +kernel
theorem wrong_more : ∀ m < 3, (blocM (124 :: 10 :: 10 :: (List.replicate (2 + (1 + m)) 32 ++ [10, 32, 32, 97, 10])) 0 0).2 = (5, 5) := by decide +kernel
theorem wrong_none : (blocM [124, 10, 10, 32, 32, 10, 32, 32, 97, 10] 0 0).1.text = [10, 10, 97, 10] ∧ (blocM [124, 10, 10, 32, 32, 10, 32, 32, 97, 10] 0 0).2.2 = 0 := by decide +kernel
theorem lit_int {xs : List Int} {k : Nat} (h : k < xs.length) : (xs.map fun x : Int => Value.int .i64 x)[k]? = some (.int .i64 (xs.getD k 0)) := by simp [h]
set_option maxRecDepth 100000 in
set_option maxHeartbeats 8000000 in
theorem blocWrong_c (a b : Int) (w : World) (hE : Env w) (_a1 : -9223372036854775808 ≤ a) (_a2 : a ≤ 9223372036854775807) (_b1 : -9223372036854775808 ≤ b) (_b2 : b ≤ 9223372036854775807) :
    Calls Tryd.prog 14 #[.int .i64 a, .int .i64 b] w fun e w' => e = .returned (.bool true) ∧ Below w.heap.size w w' := by
  have hA := At.refl hE
  have hLk := fun w => lit_low a 9 (low a 9) w (by omega) (by omega) rfl
  have hLm := fun w => lit_low b 3 (low b 3) w (by omega) (by omega) rfl
  have hk := low_lt a 9 (by omega)
  have hm := low_lt b 3 (by omega)
  generalize low a 9 = k at *
  generalize low b 3 = m at *
  obtain ⟨h1, h1l⟩ := wrong_all k hk
  have h2 := wrong_more m hm
  obtain ⟨h3, h4⟩ := wrong_none
  have ck1 := lit_cell w 9 (strs wrongH) k _ (lit_at (xs := wrongH) hk)
  change (w.alloc (.cells #[.string ⟨#[124, 48]⟩, .string ⟨#[124, 45, 45]⟩, .string ⟨#[124, 49, 50]⟩, .string ⟨#[124, 43, 45]⟩, .string ⟨#[62, 97]⟩, .string ⟨#[124, 32, 97]⟩, .string ⟨#[124, 49, 43, 50]⟩, .string ⟨#[124, 35]⟩, .string ⟨#[124, 43, 32, 45]⟩] 9)).cell? ⟨w.heap.size, k, none⟩ = _ at ck1
  have hA := hA.alloc (.cells #[.string ⟨#[124, 48]⟩, .string ⟨#[124, 45, 45]⟩, .string ⟨#[124, 49, 50]⟩, .string ⟨#[124, 43, 45]⟩, .string ⟨#[62, 97]⟩, .string ⟨#[124, 32, 97]⟩, .string ⟨#[124, 49, 43, 50]⟩, .string ⟨#[124, 35]⟩, .string ⟨#[124, 43, 32, 45]⟩] 9)
  have hsz : (w.alloc (.cells #[.string ⟨#[124, 48]⟩, .string ⟨#[124, 45, 45]⟩, .string ⟨#[124, 49, 50]⟩, .string ⟨#[124, 43, 45]⟩, .string ⟨#[62, 97]⟩, .string ⟨#[124, 32, 97]⟩, .string ⟨#[124, 49, 43, 50]⟩, .string ⟨#[124, 35]⟩, .string ⟨#[124, 43, 32, 45]⟩] 9)).heap.size = w.heap.size + 1 := by simp
  go_enter Tryd.func14, Tryd.ntmps14
  go_upto_region 2 with fail
  generalize w.alloc (.cells #[.string ⟨#[124, 48]⟩, .string ⟨#[124, 45, 45]⟩, .string ⟨#[124, 49, 50]⟩, .string ⟨#[124, 43, 45]⟩, .string ⟨#[62, 97]⟩, .string ⟨#[124, 32, 97]⟩, .string ⟨#[124, 49, 43, 50]⟩, .string ⟨#[124, 35]⟩, .string ⟨#[124, 43, 32, 45]⟩] 9) = w1 at *
  have ck2 := lit_cell w1 3 (wrongA.map fun x : Int => Value.int .i64 x) k _ (lit_int (xs := wrongA) hk)
  change (w1.alloc (.cells #[.int .i64 1, .int .i64 2, .int .i64 2, .int .i64 2, .int .i64 1, .int .i64 2, .int .i64 3, .int .i64 1, .int .i64 3] 3)).cell? ⟨w1.heap.size, k, none⟩ = _ at ck2
  have hl1 : (⟨w.heap.size, k, none⟩ : Addr).block < w1.heap.size := by show w.heap.size < _; omega
  have hbA : Below w1.heap.size w1 (w1.alloc (.cells #[.int .i64 1, .int .i64 2, .int .i64 2, .int .i64 2, .int .i64 1, .int .i64 2, .int .i64 3, .int .i64 1, .int .i64 3] 3)) := (Below.refl _ _).alloc (Nat.le_refl _) _
  have ck1 := (hbA.cell (p := ⟨w.heap.size, k, none⟩) hl1).trans ck1
  have hA := hA.step hbA
  have hl2 : w1.heap.size < (w1.alloc (.cells #[.int .i64 1, .int .i64 2, .int .i64 2, .int .i64 2, .int .i64 1, .int .i64 2, .int .i64 3, .int .i64 1, .int .i64 3] 3)).heap.size := by simp
  clear hbA
  go_upto_region 3 with fail
  generalize w1.alloc (.cells #[.int .i64 1, .int .i64 2, .int .i64 2, .int .i64 2, .int .i64 1, .int .i64 2, .int .i64 3, .int .i64 1, .int .i64 3] 3) = w2 at *
  have hrd := fun w => blread_c (wrongH.getD k [] ++ [10, 32, 97, 10]) 0 0 w (by rw [List.length_append]; show _ + 4 ≤ _; omega) (by omega) (by omega)
  generalize wrongH.getD k [] = hd at *
  generalize wrongA.getD k 0 = at' at *
  have hk0 : (0 : Int) ≤ (k : Int) := by omega
  have hk9 : (k : Int) < 9 := by omega
  obtain ⟨X, hX⟩ : ∃ X, blocM (hd ++ [10, 32, 97, 10]) 0 0 = X := ⟨_, rfl⟩
  rw [hX] at hrd h1
  obtain ⟨x, xp⟩ := X
  simp only [] at hrd h1
  subst h1
  clear hX
  go_wp2_with fail
  refine (hLk _).mono ?_
  rintro e w3 ⟨rfl, hw3⟩
  obtain rfl := hw3.symm
  go_wp2_with fail
  refine (hrd _).mono ?_
  rintro e w4 ⟨rfl, hb4⟩
  have ck2 := (hb4.cell (p := ⟨w1.heap.size, k, none⟩) hl2).trans ck2
  have hA := hA.step hb4
  have hl2 : w1.heap.size < w4.heap.size := Nat.lt_of_lt_of_le hl2 hb4.size
  clear hb4 ck1 hrd
  have hA := hA.alloc (.cells (bnCells x).toArray 52)
  have hb5 : Below w4.heap.size w4 (w4.alloc (.cells (bnCells x).toArray 52)) := (Below.refl _ _).alloc (Nat.le_refl _) _
  have ck2 := (hb5.cell (p := ⟨w1.heap.size, k, none⟩) hl2).trans ck2
  have hl2 : w1.heap.size < (w4.alloc (.cells (bnCells x).toArray 52)).heap.size := by simp; omega
  clear hb5
  go_upto_region 5 with fail
  generalize w4.alloc (.cells (bnCells x).toArray 52) = w5 at *
  have hBl := fun w => blan_c (2 + (1 + m)) w (by omega)
  rw [show ((2 + (1 + m) : Nat) : Int) = 2 + (1 + (m : Int)) by omega] at hBl
  have hrd := fun w => blread_c (124 :: 10 :: 10 :: (List.replicate (2 + (1 + m)) 32 ++ [10, 32, 32, 97, 10])) 0 0 w (by simp; omega) (by omega) (by omega)
  have hbl : (List.replicate (2 + (1 + m)) (32 : UInt8)).length ≤ 10 := by rw [List.length_replicate]; omega
  generalize List.replicate (2 + (1 + m)) (32 : UInt8) = bs at *
  obtain ⟨Y, hY⟩ : ∃ Y, blocM (124 :: 10 :: 10 :: (bs ++ [10, 32, 32, 97, 10])) 0 0 = Y := ⟨_, rfl⟩
  rw [hY] at hrd h2
  obtain ⟨y, yp⟩ := Y
  simp only [] at hrd h2
  subst h2
  clear hY
  go_wp2_with fail
  refine (hLm _).mono ?_
  rintro e w6 ⟨rfl, hw6⟩
  obtain rfl := hw6.symm
  go_wp2_with fail
  refine (hBl _).mono ?_
  rintro e w6 ⟨rfl, rfl⟩
  go_wp2_with fail
  refine (hrd _).mono ?_
  rintro e w6 ⟨rfl, hb6⟩
  have ck2 := (hb6.cell (p := ⟨w1.heap.size, k, none⟩) hl2).trans ck2
  have hA := hA.step hb6
  have hl2 : w1.heap.size < w6.heap.size := Nat.lt_of_lt_of_le hl2 hb6.size
  clear hb6 hrd
  have hA := hA.alloc (.cells (bnCells y).toArray 52)
  have hb7 : Below w6.heap.size w6 (w6.alloc (.cells (bnCells y).toArray 52)) := (Below.refl _ _).alloc (Nat.le_refl _) _
  have ck2 := (hb7.cell (p := ⟨w1.heap.size, k, none⟩) hl2).trans ck2
  have hl2 : w1.heap.size < (w6.alloc (.cells (bnCells y).toArray 52)).heap.size := by simp; omega
  clear hb7
  go_upto_region 7 with fail
  generalize w6.alloc (.cells (bnCells y).toArray 52) = w7 at *
  have hrd := fun w => blread_c [124, 10, 10, 32, 32, 10, 32, 32, 97, 10] 0 0 w (by decide) (by omega) (by omega)
  obtain ⟨Z, hZ⟩ : ∃ Z, blocM [124, 10, 10, 32, 32, 10, 32, 32, 97, 10] 0 0 = Z := ⟨_, rfl⟩
  rw [hZ] at hrd h3 h4
  obtain ⟨z, zp, ze⟩ := Z
  simp only [] at hrd h3 h4
  subst h4
  have H3 := Lib.hid h3
  clear hZ h3
  go_wp2_with fail
  refine (hrd _).mono ?_
  rintro e w8 ⟨rfl, hb8⟩
  have ck2 := (hb8.cell (p := ⟨w1.heap.size, k, none⟩) hl2).trans ck2
  have hA := hA.step hb8
  have hl2 : w1.heap.size < w8.heap.size := Nat.lt_of_lt_of_le hl2 hb8.size
  clear hb8 hrd
  have hN := node_new w8 z
  have hA := hA.alloc (.cells (bnCells z).toArray 52)
  have hb9 : Below w8.heap.size w8 (w8.alloc (.cells (bnCells z).toArray 52)) := (Below.refl _ _).alloc (Nat.le_refl _) _
  have ck2 := (hb9.cell (p := ⟨w1.heap.size, k, none⟩) hl2).trans ck2
  rw [hsz] at ck2
  clear hb9
  go_upto_region 8 with fail
  generalize w8.alloc (.cells (bnCells z).toArray 52) = w9 at *
  have z6 := hN.cell 6
  simp only [List.getElem?_cons_zero, List.getElem?_cons_succ] at z6
  rw [H3.out] at z6
  clear hN
  go_wp2_with fail
  refine (awake13_c _).mono ?_
  rintro e w10 ⟨rfl, hb⟩
  have hA := hA.step hb
  clear hb
  go_wp2_with fail
  go_ret
  exact ⟨rfl, hA.below⟩
end Go.Proofs.YtobojdkloblfbaaDoor
