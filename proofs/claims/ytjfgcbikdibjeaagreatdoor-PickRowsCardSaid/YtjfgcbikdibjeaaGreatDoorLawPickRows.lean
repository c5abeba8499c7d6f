/- PickRows: texts that may stand in rows, and texts that may not. -/
import Derived.Test.YtjfgcbikdibjeaaGreatDoorWPick4
import Derived.Test.YtjfgcbikdibjeaaGreatDoorWWord
namespace Go.Proofs.YtjfgcbikdibjeaaGreatDoor
open Go.RowKit U Go.Proofs

def PickRowsRet (w : World) (e : Ending) (w' : World) : Prop := e = .returned (.bool true) ∧ Below w.heap.size w w'
set_option maxRecDepth 100000 in
set_option maxHeartbeats 4000000 in
theorem pickRows_0 (n which : Int) (w : World) (hE : Env w) (hw : wordOf n = [97]) : Calls Tryz.prog 7 #[.int .i64 n, .int .i64 which] w (PickRowsRet w) := by
  have hA := At.refl hE
  have hW := fun w => word_c n w
  have hLw := fun w => low_c which 18 w (by omega) (by omega)
  have hk := low_lt which 18 (by omega)
  rw [hw] at hW
  generalize low which 18 = k at *
  obtain ⟨hl, hx⟩ := rowsText_all [97] (by decide) k hk
  have hlit := lit_at (xs := rowsText [97]) (k := k) hk
  obtain ⟨x, hxx⟩ : ∃ x, (rowsText [97]).getD k [] = x := ⟨_, rfl⟩
  rw [hxx] at hl hx hlit
  have hL := fun w hE => literal_c x w hE (by omega)
  rw [hl] at hL
  have hk0 : (0 : Int) ≤ (k : Int) := by omega
  have hk18 : (k : Int) < 18 := by omega
  have hd : decide ((k : Int) < 8) = decide (k < 8) := by rw [Bool.eq_iff_iff, decide_eq_true_iff, decide_eq_true_iff]; omega
  clear hw hxx hl
  go_enter Tryz.func7, Tryz.ntmps7
  go_wp2_with fail
  refine (hW _).mono ?_
  rintro e w1 ⟨rfl, hb⟩
  have hA := hA.step hb
  clear hb
  have ck := lit_cell w1 9 (strs (rowsText [97])) k _ hlit
  change (w1.alloc (.cells #[.string ⟨#[97]⟩, .string ⟨#[97, 10]⟩, .string ⟨#[97, 10, 10, 97]⟩, .string ⟨#[97, 10, 32, 97]⟩, .string ⟨#[97, 10, 9, 97, 10]⟩, .string ⟨#[97, 32, 10, 97]⟩, .string ⟨#[35, 32, 97]⟩, .string ⟨#[45, 32, 97, 10, 45, 45, 45, 10]⟩, .string ⟨#[]⟩, .string ⟨#[32, 97]⟩, .string ⟨#[10, 97]⟩, .string ⟨#[9, 97]⟩, .string ⟨#[97, 10, 10]⟩, .string ⟨#[97, 10, 32, 10, 97]⟩, .string ⟨#[97, 10, 32]⟩, .string ⟨#[97, 10, 9]⟩, .string ⟨#[97, 1]⟩, .string ⟨#[97, 133]⟩] 9)).cell? ⟨w1.heap.size, k, none⟩ = _ at ck
  have hA := hA.alloc (.cells #[.string ⟨#[97]⟩, .string ⟨#[97, 10]⟩, .string ⟨#[97, 10, 10, 97]⟩, .string ⟨#[97, 10, 32, 97]⟩, .string ⟨#[97, 10, 9, 97, 10]⟩, .string ⟨#[97, 32, 10, 97]⟩, .string ⟨#[35, 32, 97]⟩, .string ⟨#[45, 32, 97, 10, 45, 45, 45, 10]⟩, .string ⟨#[]⟩, .string ⟨#[32, 97]⟩, .string ⟨#[10, 97]⟩, .string ⟨#[9, 97]⟩, .string ⟨#[97, 10, 10]⟩, .string ⟨#[97, 10, 32, 10, 97]⟩, .string ⟨#[97, 10, 32]⟩, .string ⟨#[97, 10, 9]⟩, .string ⟨#[97, 1]⟩, .string ⟨#[97, 133]⟩] 9)
  go_upto_region 3 with fail
  generalize w1.alloc (.cells #[.string ⟨#[97]⟩, .string ⟨#[97, 10]⟩, .string ⟨#[97, 10, 10, 97]⟩, .string ⟨#[97, 10, 32, 97]⟩, .string ⟨#[97, 10, 9, 97, 10]⟩, .string ⟨#[97, 32, 10, 97]⟩, .string ⟨#[35, 32, 97]⟩, .string ⟨#[45, 32, 97, 10, 45, 45, 45, 10]⟩, .string ⟨#[]⟩, .string ⟨#[32, 97]⟩, .string ⟨#[10, 97]⟩, .string ⟨#[9, 97]⟩, .string ⟨#[97, 10, 10]⟩, .string ⟨#[97, 10, 32, 10, 97]⟩, .string ⟨#[97, 10, 32]⟩, .string ⟨#[97, 10, 9]⟩, .string ⟨#[97, 1]⟩, .string ⟨#[97, 133]⟩] 9) = W at *
  go_wp2_with fail
  refine (hLw _).mono ?_
  rintro e w2 ⟨rfl, rfl⟩
  go_wp2_with fail
  refine (hL _ hA.env).mono ?_
  rintro e w2 ⟨rfl, hb2⟩
  have hA := hA.step hb2
  clear ck hL hLw hW
  generalize decide (k < 8) = d at *
  cases d
  all_goals
    go_wp2_with fail
    refine (awake23_c _ hA.env).mono ?_
    rintro e w3 ⟨rfl, hb3⟩
    go_wp2_with fail
    go_ret
    exact ⟨rfl, (hA.step hb3).below⟩
set_option maxRecDepth 100000 in
set_option maxHeartbeats 4000000 in
theorem pickRows_1 (n which : Int) (w : World) (hE : Env w) (hw : wordOf n = [98, 99]) : Calls Tryz.prog 7 #[.int .i64 n, .int .i64 which] w (PickRowsRet w) := by
  have hA := At.refl hE
  have hW := fun w => word_c n w
  have hLw := fun w => low_c which 18 w (by omega) (by omega)
  have hk := low_lt which 18 (by omega)
  rw [hw] at hW
  generalize low which 18 = k at *
  obtain ⟨hl, hx⟩ := rowsText_all [98, 99] (by decide) k hk
  have hlit := lit_at (xs := rowsText [98, 99]) (k := k) hk
  obtain ⟨x, hxx⟩ : ∃ x, (rowsText [98, 99]).getD k [] = x := ⟨_, rfl⟩
  rw [hxx] at hl hx hlit
  have hL := fun w hE => literal_c x w hE (by omega)
  rw [hl] at hL
  have hk0 : (0 : Int) ≤ (k : Int) := by omega
  have hk18 : (k : Int) < 18 := by omega
  have hd : decide ((k : Int) < 8) = decide (k < 8) := by rw [Bool.eq_iff_iff, decide_eq_true_iff, decide_eq_true_iff]; omega
  clear hw hxx hl
  go_enter Tryz.func7, Tryz.ntmps7
  go_wp2_with fail
  refine (hW _).mono ?_
  rintro e w1 ⟨rfl, hb⟩
  have hA := hA.step hb
  clear hb
  have ck := lit_cell w1 9 (strs (rowsText [98, 99])) k _ hlit
  change (w1.alloc (.cells #[.string ⟨#[98, 99]⟩, .string ⟨#[98, 99, 10]⟩, .string ⟨#[98, 99, 10, 10, 98, 99]⟩, .string ⟨#[98, 99, 10, 32, 98, 99]⟩, .string ⟨#[98, 99, 10, 9, 98, 99, 10]⟩, .string ⟨#[98, 99, 32, 10, 98, 99]⟩, .string ⟨#[35, 32, 98, 99]⟩, .string ⟨#[45, 32, 98, 99, 10, 45, 45, 45, 10]⟩, .string ⟨#[]⟩, .string ⟨#[32, 98, 99]⟩, .string ⟨#[10, 98, 99]⟩, .string ⟨#[9, 98, 99]⟩, .string ⟨#[98, 99, 10, 10]⟩, .string ⟨#[98, 99, 10, 32, 10, 98, 99]⟩, .string ⟨#[98, 99, 10, 32]⟩, .string ⟨#[98, 99, 10, 9]⟩, .string ⟨#[98, 99, 1]⟩, .string ⟨#[98, 99, 133]⟩] 9)).cell? ⟨w1.heap.size, k, none⟩ = _ at ck
  have hA := hA.alloc (.cells #[.string ⟨#[98, 99]⟩, .string ⟨#[98, 99, 10]⟩, .string ⟨#[98, 99, 10, 10, 98, 99]⟩, .string ⟨#[98, 99, 10, 32, 98, 99]⟩, .string ⟨#[98, 99, 10, 9, 98, 99, 10]⟩, .string ⟨#[98, 99, 32, 10, 98, 99]⟩, .string ⟨#[35, 32, 98, 99]⟩, .string ⟨#[45, 32, 98, 99, 10, 45, 45, 45, 10]⟩, .string ⟨#[]⟩, .string ⟨#[32, 98, 99]⟩, .string ⟨#[10, 98, 99]⟩, .string ⟨#[9, 98, 99]⟩, .string ⟨#[98, 99, 10, 10]⟩, .string ⟨#[98, 99, 10, 32, 10, 98, 99]⟩, .string ⟨#[98, 99, 10, 32]⟩, .string ⟨#[98, 99, 10, 9]⟩, .string ⟨#[98, 99, 1]⟩, .string ⟨#[98, 99, 133]⟩] 9)
  go_upto_region 3 with fail
  generalize w1.alloc (.cells #[.string ⟨#[98, 99]⟩, .string ⟨#[98, 99, 10]⟩, .string ⟨#[98, 99, 10, 10, 98, 99]⟩, .string ⟨#[98, 99, 10, 32, 98, 99]⟩, .string ⟨#[98, 99, 10, 9, 98, 99, 10]⟩, .string ⟨#[98, 99, 32, 10, 98, 99]⟩, .string ⟨#[35, 32, 98, 99]⟩, .string ⟨#[45, 32, 98, 99, 10, 45, 45, 45, 10]⟩, .string ⟨#[]⟩, .string ⟨#[32, 98, 99]⟩, .string ⟨#[10, 98, 99]⟩, .string ⟨#[9, 98, 99]⟩, .string ⟨#[98, 99, 10, 10]⟩, .string ⟨#[98, 99, 10, 32, 10, 98, 99]⟩, .string ⟨#[98, 99, 10, 32]⟩, .string ⟨#[98, 99, 10, 9]⟩, .string ⟨#[98, 99, 1]⟩, .string ⟨#[98, 99, 133]⟩] 9) = W at *
  go_wp2_with fail
  refine (hLw _).mono ?_
  rintro e w2 ⟨rfl, rfl⟩
  go_wp2_with fail
  refine (hL _ hA.env).mono ?_
  rintro e w2 ⟨rfl, hb2⟩
  have hA := hA.step hb2
  clear ck hL hLw hW
  generalize decide (k < 8) = d at *
  cases d
  all_goals
    go_wp2_with fail
    refine (awake23_c _ hA.env).mono ?_
    rintro e w3 ⟨rfl, hb3⟩
    go_wp2_with fail
    go_ret
    exact ⟨rfl, (hA.step hb3).below⟩
set_option maxRecDepth 100000 in
set_option maxHeartbeats 4000000 in
theorem pickRows_2 (n which : Int) (w : World) (hE : Env w) (hw : wordOf n = [100, 45, 101]) : Calls Tryz.prog 7 #[.int .i64 n, .int .i64 which] w (PickRowsRet w) := by
  have hA := At.refl hE
  have hW := fun w => word_c n w
  have hLw := fun w => low_c which 18 w (by omega) (by omega)
  have hk := low_lt which 18 (by omega)
  rw [hw] at hW
  generalize low which 18 = k at *
  obtain ⟨hl, hx⟩ := rowsText_all [100, 45, 101] (by decide) k hk
  have hlit := lit_at (xs := rowsText [100, 45, 101]) (k := k) hk
  obtain ⟨x, hxx⟩ : ∃ x, (rowsText [100, 45, 101]).getD k [] = x := ⟨_, rfl⟩
  rw [hxx] at hl hx hlit
  have hL := fun w hE => literal_c x w hE (by omega)
  rw [hl] at hL
  have hk0 : (0 : Int) ≤ (k : Int) := by omega
  have hk18 : (k : Int) < 18 := by omega
  have hd : decide ((k : Int) < 8) = decide (k < 8) := by rw [Bool.eq_iff_iff, decide_eq_true_iff, decide_eq_true_iff]; omega
  clear hw hxx hl
  go_enter Tryz.func7, Tryz.ntmps7
  go_wp2_with fail
  refine (hW _).mono ?_
  rintro e w1 ⟨rfl, hb⟩
  have hA := hA.step hb
  clear hb
  have ck := lit_cell w1 9 (strs (rowsText [100, 45, 101])) k _ hlit
  change (w1.alloc (.cells #[.string ⟨#[100, 45, 101]⟩, .string ⟨#[100, 45, 101, 10]⟩, .string ⟨#[100, 45, 101, 10, 10, 100, 45, 101]⟩, .string ⟨#[100, 45, 101, 10, 32, 100, 45, 101]⟩, .string ⟨#[100, 45, 101, 10, 9, 100, 45, 101, 10]⟩, .string ⟨#[100, 45, 101, 32, 10, 100, 45, 101]⟩, .string ⟨#[35, 32, 100, 45, 101]⟩, .string ⟨#[45, 32, 100, 45, 101, 10, 45, 45, 45, 10]⟩, .string ⟨#[]⟩, .string ⟨#[32, 100, 45, 101]⟩, .string ⟨#[10, 100, 45, 101]⟩, .string ⟨#[9, 100, 45, 101]⟩, .string ⟨#[100, 45, 101, 10, 10]⟩, .string ⟨#[100, 45, 101, 10, 32, 10, 100, 45, 101]⟩, .string ⟨#[100, 45, 101, 10, 32]⟩, .string ⟨#[100, 45, 101, 10, 9]⟩, .string ⟨#[100, 45, 101, 1]⟩, .string ⟨#[100, 45, 101, 133]⟩] 9)).cell? ⟨w1.heap.size, k, none⟩ = _ at ck
  have hA := hA.alloc (.cells #[.string ⟨#[100, 45, 101]⟩, .string ⟨#[100, 45, 101, 10]⟩, .string ⟨#[100, 45, 101, 10, 10, 100, 45, 101]⟩, .string ⟨#[100, 45, 101, 10, 32, 100, 45, 101]⟩, .string ⟨#[100, 45, 101, 10, 9, 100, 45, 101, 10]⟩, .string ⟨#[100, 45, 101, 32, 10, 100, 45, 101]⟩, .string ⟨#[35, 32, 100, 45, 101]⟩, .string ⟨#[45, 32, 100, 45, 101, 10, 45, 45, 45, 10]⟩, .string ⟨#[]⟩, .string ⟨#[32, 100, 45, 101]⟩, .string ⟨#[10, 100, 45, 101]⟩, .string ⟨#[9, 100, 45, 101]⟩, .string ⟨#[100, 45, 101, 10, 10]⟩, .string ⟨#[100, 45, 101, 10, 32, 10, 100, 45, 101]⟩, .string ⟨#[100, 45, 101, 10, 32]⟩, .string ⟨#[100, 45, 101, 10, 9]⟩, .string ⟨#[100, 45, 101, 1]⟩, .string ⟨#[100, 45, 101, 133]⟩] 9)
  go_upto_region 3 with fail
  generalize w1.alloc (.cells #[.string ⟨#[100, 45, 101]⟩, .string ⟨#[100, 45, 101, 10]⟩, .string ⟨#[100, 45, 101, 10, 10, 100, 45, 101]⟩, .string ⟨#[100, 45, 101, 10, 32, 100, 45, 101]⟩, .string ⟨#[100, 45, 101, 10, 9, 100, 45, 101, 10]⟩, .string ⟨#[100, 45, 101, 32, 10, 100, 45, 101]⟩, .string ⟨#[35, 32, 100, 45, 101]⟩, .string ⟨#[45, 32, 100, 45, 101, 10, 45, 45, 45, 10]⟩, .string ⟨#[]⟩, .string ⟨#[32, 100, 45, 101]⟩, .string ⟨#[10, 100, 45, 101]⟩, .string ⟨#[9, 100, 45, 101]⟩, .string ⟨#[100, 45, 101, 10, 10]⟩, .string ⟨#[100, 45, 101, 10, 32, 10, 100, 45, 101]⟩, .string ⟨#[100, 45, 101, 10, 32]⟩, .string ⟨#[100, 45, 101, 10, 9]⟩, .string ⟨#[100, 45, 101, 1]⟩, .string ⟨#[100, 45, 101, 133]⟩] 9) = W at *
  go_wp2_with fail
  refine (hLw _).mono ?_
  rintro e w2 ⟨rfl, rfl⟩
  go_wp2_with fail
  refine (hL _ hA.env).mono ?_
  rintro e w2 ⟨rfl, hb2⟩
  have hA := hA.step hb2
  clear ck hL hLw hW
  generalize decide (k < 8) = d at *
  cases d
  all_goals
    go_wp2_with fail
    refine (awake23_c _ hA.env).mono ?_
    rintro e w3 ⟨rfl, hb3⟩
    go_wp2_with fail
    go_ret
    exact ⟨rfl, (hA.step hb3).below⟩
set_option maxRecDepth 100000 in
set_option maxHeartbeats 4000000 in
theorem pickRows_3 (n which : Int) (w : World) (hE : Env w) (hw : wordOf n = [102, 95, 103]) : Calls Tryz.prog 7 #[.int .i64 n, .int .i64 which] w (PickRowsRet w) := by
  have hA := At.refl hE
  have hW := fun w => word_c n w
  have hLw := fun w => low_c which 18 w (by omega) (by omega)
  have hk := low_lt which 18 (by omega)
  rw [hw] at hW
  generalize low which 18 = k at *
  obtain ⟨hl, hx⟩ := rowsText_all [102, 95, 103] (by decide) k hk
  have hlit := lit_at (xs := rowsText [102, 95, 103]) (k := k) hk
  obtain ⟨x, hxx⟩ : ∃ x, (rowsText [102, 95, 103]).getD k [] = x := ⟨_, rfl⟩
  rw [hxx] at hl hx hlit
  have hL := fun w hE => literal_c x w hE (by omega)
  rw [hl] at hL
  have hk0 : (0 : Int) ≤ (k : Int) := by omega
  have hk18 : (k : Int) < 18 := by omega
  have hd : decide ((k : Int) < 8) = decide (k < 8) := by rw [Bool.eq_iff_iff, decide_eq_true_iff, decide_eq_true_iff]; omega
  clear hw hxx hl
  go_enter Tryz.func7, Tryz.ntmps7
  go_wp2_with fail
  refine (hW _).mono ?_
  rintro e w1 ⟨rfl, hb⟩
  have hA := hA.step hb
  clear hb
  have ck := lit_cell w1 9 (strs (rowsText [102, 95, 103])) k _ hlit
  change (w1.alloc (.cells #[.string ⟨#[102, 95, 103]⟩, .string ⟨#[102, 95, 103, 10]⟩, .string ⟨#[102, 95, 103, 10, 10, 102, 95, 103]⟩, .string ⟨#[102, 95, 103, 10, 32, 102, 95, 103]⟩, .string ⟨#[102, 95, 103, 10, 9, 102, 95, 103, 10]⟩, .string ⟨#[102, 95, 103, 32, 10, 102, 95, 103]⟩, .string ⟨#[35, 32, 102, 95, 103]⟩, .string ⟨#[45, 32, 102, 95, 103, 10, 45, 45, 45, 10]⟩, .string ⟨#[]⟩, .string ⟨#[32, 102, 95, 103]⟩, .string ⟨#[10, 102, 95, 103]⟩, .string ⟨#[9, 102, 95, 103]⟩, .string ⟨#[102, 95, 103, 10, 10]⟩, .string ⟨#[102, 95, 103, 10, 32, 10, 102, 95, 103]⟩, .string ⟨#[102, 95, 103, 10, 32]⟩, .string ⟨#[102, 95, 103, 10, 9]⟩, .string ⟨#[102, 95, 103, 1]⟩, .string ⟨#[102, 95, 103, 133]⟩] 9)).cell? ⟨w1.heap.size, k, none⟩ = _ at ck
  have hA := hA.alloc (.cells #[.string ⟨#[102, 95, 103]⟩, .string ⟨#[102, 95, 103, 10]⟩, .string ⟨#[102, 95, 103, 10, 10, 102, 95, 103]⟩, .string ⟨#[102, 95, 103, 10, 32, 102, 95, 103]⟩, .string ⟨#[102, 95, 103, 10, 9, 102, 95, 103, 10]⟩, .string ⟨#[102, 95, 103, 32, 10, 102, 95, 103]⟩, .string ⟨#[35, 32, 102, 95, 103]⟩, .string ⟨#[45, 32, 102, 95, 103, 10, 45, 45, 45, 10]⟩, .string ⟨#[]⟩, .string ⟨#[32, 102, 95, 103]⟩, .string ⟨#[10, 102, 95, 103]⟩, .string ⟨#[9, 102, 95, 103]⟩, .string ⟨#[102, 95, 103, 10, 10]⟩, .string ⟨#[102, 95, 103, 10, 32, 10, 102, 95, 103]⟩, .string ⟨#[102, 95, 103, 10, 32]⟩, .string ⟨#[102, 95, 103, 10, 9]⟩, .string ⟨#[102, 95, 103, 1]⟩, .string ⟨#[102, 95, 103, 133]⟩] 9)
  go_upto_region 3 with fail
  generalize w1.alloc (.cells #[.string ⟨#[102, 95, 103]⟩, .string ⟨#[102, 95, 103, 10]⟩, .string ⟨#[102, 95, 103, 10, 10, 102, 95, 103]⟩, .string ⟨#[102, 95, 103, 10, 32, 102, 95, 103]⟩, .string ⟨#[102, 95, 103, 10, 9, 102, 95, 103, 10]⟩, .string ⟨#[102, 95, 103, 32, 10, 102, 95, 103]⟩, .string ⟨#[35, 32, 102, 95, 103]⟩, .string ⟨#[45, 32, 102, 95, 103, 10, 45, 45, 45, 10]⟩, .string ⟨#[]⟩, .string ⟨#[32, 102, 95, 103]⟩, .string ⟨#[10, 102, 95, 103]⟩, .string ⟨#[9, 102, 95, 103]⟩, .string ⟨#[102, 95, 103, 10, 10]⟩, .string ⟨#[102, 95, 103, 10, 32, 10, 102, 95, 103]⟩, .string ⟨#[102, 95, 103, 10, 32]⟩, .string ⟨#[102, 95, 103, 10, 9]⟩, .string ⟨#[102, 95, 103, 1]⟩, .string ⟨#[102, 95, 103, 133]⟩] 9) = W at *
  go_wp2_with fail
  refine (hLw _).mono ?_
  rintro e w2 ⟨rfl, rfl⟩
  go_wp2_with fail
  refine (hL _ hA.env).mono ?_
  rintro e w2 ⟨rfl, hb2⟩
  have hA := hA.step hb2
  clear ck hL hLw hW
  generalize decide (k < 8) = d at *
  cases d
  all_goals
    go_wp2_with fail
    refine (awake23_c _ hA.env).mono ?_
    rintro e w3 ⟨rfl, hb3⟩
    go_wp2_with fail
    go_ret
    exact ⟨rfl, (hA.step hb3).below⟩
set_option maxRecDepth 100000 in
set_option maxHeartbeats 4000000 in
theorem pickRows_4 (n which : Int) (w : World) (hE : Env w) (hw : wordOf n = [104, 49]) : Calls Tryz.prog 7 #[.int .i64 n, .int .i64 which] w (PickRowsRet w) := by
  have hA := At.refl hE
  have hW := fun w => word_c n w
  have hLw := fun w => low_c which 18 w (by omega) (by omega)
  have hk := low_lt which 18 (by omega)
  rw [hw] at hW
  generalize low which 18 = k at *
  obtain ⟨hl, hx⟩ := rowsText_all [104, 49] (by decide) k hk
  have hlit := lit_at (xs := rowsText [104, 49]) (k := k) hk
  obtain ⟨x, hxx⟩ : ∃ x, (rowsText [104, 49]).getD k [] = x := ⟨_, rfl⟩
  rw [hxx] at hl hx hlit
  have hL := fun w hE => literal_c x w hE (by omega)
  rw [hl] at hL
  have hk0 : (0 : Int) ≤ (k : Int) := by omega
  have hk18 : (k : Int) < 18 := by omega
  have hd : decide ((k : Int) < 8) = decide (k < 8) := by rw [Bool.eq_iff_iff, decide_eq_true_iff, decide_eq_true_iff]; omega
  clear hw hxx hl
  go_enter Tryz.func7, Tryz.ntmps7
  go_wp2_with fail
  refine (hW _).mono ?_
  rintro e w1 ⟨rfl, hb⟩
  have hA := hA.step hb
  clear hb
  have ck := lit_cell w1 9 (strs (rowsText [104, 49])) k _ hlit
  change (w1.alloc (.cells #[.string ⟨#[104, 49]⟩, .string ⟨#[104, 49, 10]⟩, .string ⟨#[104, 49, 10, 10, 104, 49]⟩, .string ⟨#[104, 49, 10, 32, 104, 49]⟩, .string ⟨#[104, 49, 10, 9, 104, 49, 10]⟩, .string ⟨#[104, 49, 32, 10, 104, 49]⟩, .string ⟨#[35, 32, 104, 49]⟩, .string ⟨#[45, 32, 104, 49, 10, 45, 45, 45, 10]⟩, .string ⟨#[]⟩, .string ⟨#[32, 104, 49]⟩, .string ⟨#[10, 104, 49]⟩, .string ⟨#[9, 104, 49]⟩, .string ⟨#[104, 49, 10, 10]⟩, .string ⟨#[104, 49, 10, 32, 10, 104, 49]⟩, .string ⟨#[104, 49, 10, 32]⟩, .string ⟨#[104, 49, 10, 9]⟩, .string ⟨#[104, 49, 1]⟩, .string ⟨#[104, 49, 133]⟩] 9)).cell? ⟨w1.heap.size, k, none⟩ = _ at ck
  have hA := hA.alloc (.cells #[.string ⟨#[104, 49]⟩, .string ⟨#[104, 49, 10]⟩, .string ⟨#[104, 49, 10, 10, 104, 49]⟩, .string ⟨#[104, 49, 10, 32, 104, 49]⟩, .string ⟨#[104, 49, 10, 9, 104, 49, 10]⟩, .string ⟨#[104, 49, 32, 10, 104, 49]⟩, .string ⟨#[35, 32, 104, 49]⟩, .string ⟨#[45, 32, 104, 49, 10, 45, 45, 45, 10]⟩, .string ⟨#[]⟩, .string ⟨#[32, 104, 49]⟩, .string ⟨#[10, 104, 49]⟩, .string ⟨#[9, 104, 49]⟩, .string ⟨#[104, 49, 10, 10]⟩, .string ⟨#[104, 49, 10, 32, 10, 104, 49]⟩, .string ⟨#[104, 49, 10, 32]⟩, .string ⟨#[104, 49, 10, 9]⟩, .string ⟨#[104, 49, 1]⟩, .string ⟨#[104, 49, 133]⟩] 9)
  go_upto_region 3 with fail
  generalize w1.alloc (.cells #[.string ⟨#[104, 49]⟩, .string ⟨#[104, 49, 10]⟩, .string ⟨#[104, 49, 10, 10, 104, 49]⟩, .string ⟨#[104, 49, 10, 32, 104, 49]⟩, .string ⟨#[104, 49, 10, 9, 104, 49, 10]⟩, .string ⟨#[104, 49, 32, 10, 104, 49]⟩, .string ⟨#[35, 32, 104, 49]⟩, .string ⟨#[45, 32, 104, 49, 10, 45, 45, 45, 10]⟩, .string ⟨#[]⟩, .string ⟨#[32, 104, 49]⟩, .string ⟨#[10, 104, 49]⟩, .string ⟨#[9, 104, 49]⟩, .string ⟨#[104, 49, 10, 10]⟩, .string ⟨#[104, 49, 10, 32, 10, 104, 49]⟩, .string ⟨#[104, 49, 10, 32]⟩, .string ⟨#[104, 49, 10, 9]⟩, .string ⟨#[104, 49, 1]⟩, .string ⟨#[104, 49, 133]⟩] 9) = W at *
  go_wp2_with fail
  refine (hLw _).mono ?_
  rintro e w2 ⟨rfl, rfl⟩
  go_wp2_with fail
  refine (hL _ hA.env).mono ?_
  rintro e w2 ⟨rfl, hb2⟩
  have hA := hA.step hb2
  clear ck hL hLw hW
  generalize decide (k < 8) = d at *
  cases d
  all_goals
    go_wp2_with fail
    refine (awake23_c _ hA.env).mono ?_
    rintro e w3 ⟨rfl, hb3⟩
    go_wp2_with fail
    go_ret
    exact ⟨rfl, (hA.step hb3).below⟩
set_option maxRecDepth 100000 in
set_option maxHeartbeats 4000000 in
theorem pickRows_5 (n which : Int) (w : World) (hE : Env w) (hw : wordOf n = [120, 121, 122]) : Calls Tryz.prog 7 #[.int .i64 n, .int .i64 which] w (PickRowsRet w) := by
  have hA := At.refl hE
  have hW := fun w => word_c n w
  have hLw := fun w => low_c which 18 w (by omega) (by omega)
  have hk := low_lt which 18 (by omega)
  rw [hw] at hW
  generalize low which 18 = k at *
  obtain ⟨hl, hx⟩ := rowsText_all [120, 121, 122] (by decide) k hk
  have hlit := lit_at (xs := rowsText [120, 121, 122]) (k := k) hk
  obtain ⟨x, hxx⟩ : ∃ x, (rowsText [120, 121, 122]).getD k [] = x := ⟨_, rfl⟩
  rw [hxx] at hl hx hlit
  have hL := fun w hE => literal_c x w hE (by omega)
  rw [hl] at hL
  have hk0 : (0 : Int) ≤ (k : Int) := by omega
  have hk18 : (k : Int) < 18 := by omega
  have hd : decide ((k : Int) < 8) = decide (k < 8) := by rw [Bool.eq_iff_iff, decide_eq_true_iff, decide_eq_true_iff]; omega
  clear hw hxx hl
  go_enter Tryz.func7, Tryz.ntmps7
  go_wp2_with fail
  refine (hW _).mono ?_
  rintro e w1 ⟨rfl, hb⟩
  have hA := hA.step hb
  clear hb
  have ck := lit_cell w1 9 (strs (rowsText [120, 121, 122])) k _ hlit
  change (w1.alloc (.cells #[.string ⟨#[120, 121, 122]⟩, .string ⟨#[120, 121, 122, 10]⟩, .string ⟨#[120, 121, 122, 10, 10, 120, 121, 122]⟩, .string ⟨#[120, 121, 122, 10, 32, 120, 121, 122]⟩, .string ⟨#[120, 121, 122, 10, 9, 120, 121, 122, 10]⟩, .string ⟨#[120, 121, 122, 32, 10, 120, 121, 122]⟩, .string ⟨#[35, 32, 120, 121, 122]⟩, .string ⟨#[45, 32, 120, 121, 122, 10, 45, 45, 45, 10]⟩, .string ⟨#[]⟩, .string ⟨#[32, 120, 121, 122]⟩, .string ⟨#[10, 120, 121, 122]⟩, .string ⟨#[9, 120, 121, 122]⟩, .string ⟨#[120, 121, 122, 10, 10]⟩, .string ⟨#[120, 121, 122, 10, 32, 10, 120, 121, 122]⟩, .string ⟨#[120, 121, 122, 10, 32]⟩, .string ⟨#[120, 121, 122, 10, 9]⟩, .string ⟨#[120, 121, 122, 1]⟩, .string ⟨#[120, 121, 122, 133]⟩] 9)).cell? ⟨w1.heap.size, k, none⟩ = _ at ck
  have hA := hA.alloc (.cells #[.string ⟨#[120, 121, 122]⟩, .string ⟨#[120, 121, 122, 10]⟩, .string ⟨#[120, 121, 122, 10, 10, 120, 121, 122]⟩, .string ⟨#[120, 121, 122, 10, 32, 120, 121, 122]⟩, .string ⟨#[120, 121, 122, 10, 9, 120, 121, 122, 10]⟩, .string ⟨#[120, 121, 122, 32, 10, 120, 121, 122]⟩, .string ⟨#[35, 32, 120, 121, 122]⟩, .string ⟨#[45, 32, 120, 121, 122, 10, 45, 45, 45, 10]⟩, .string ⟨#[]⟩, .string ⟨#[32, 120, 121, 122]⟩, .string ⟨#[10, 120, 121, 122]⟩, .string ⟨#[9, 120, 121, 122]⟩, .string ⟨#[120, 121, 122, 10, 10]⟩, .string ⟨#[120, 121, 122, 10, 32, 10, 120, 121, 122]⟩, .string ⟨#[120, 121, 122, 10, 32]⟩, .string ⟨#[120, 121, 122, 10, 9]⟩, .string ⟨#[120, 121, 122, 1]⟩, .string ⟨#[120, 121, 122, 133]⟩] 9)
  go_upto_region 3 with fail
  generalize w1.alloc (.cells #[.string ⟨#[120, 121, 122]⟩, .string ⟨#[120, 121, 122, 10]⟩, .string ⟨#[120, 121, 122, 10, 10, 120, 121, 122]⟩, .string ⟨#[120, 121, 122, 10, 32, 120, 121, 122]⟩, .string ⟨#[120, 121, 122, 10, 9, 120, 121, 122, 10]⟩, .string ⟨#[120, 121, 122, 32, 10, 120, 121, 122]⟩, .string ⟨#[35, 32, 120, 121, 122]⟩, .string ⟨#[45, 32, 120, 121, 122, 10, 45, 45, 45, 10]⟩, .string ⟨#[]⟩, .string ⟨#[32, 120, 121, 122]⟩, .string ⟨#[10, 120, 121, 122]⟩, .string ⟨#[9, 120, 121, 122]⟩, .string ⟨#[120, 121, 122, 10, 10]⟩, .string ⟨#[120, 121, 122, 10, 32, 10, 120, 121, 122]⟩, .string ⟨#[120, 121, 122, 10, 32]⟩, .string ⟨#[120, 121, 122, 10, 9]⟩, .string ⟨#[120, 121, 122, 1]⟩, .string ⟨#[120, 121, 122, 133]⟩] 9) = W at *
  go_wp2_with fail
  refine (hLw _).mono ?_
  rintro e w2 ⟨rfl, rfl⟩
  go_wp2_with fail
  refine (hL _ hA.env).mono ?_
  rintro e w2 ⟨rfl, hb2⟩
  have hA := hA.step hb2
  clear ck hL hLw hW
  generalize decide (k < 8) = d at *
  cases d
  all_goals
    go_wp2_with fail
    refine (awake23_c _ hA.env).mono ?_
    rintro e w3 ⟨rfl, hb3⟩
    go_wp2_with fail
    go_ret
    exact ⟨rfl, (hA.step hb3).below⟩
set_option maxRecDepth 100000 in
set_option maxHeartbeats 4000000 in
theorem pickRows_6 (n which : Int) (w : World) (hE : Env w) (hw : wordOf n = [195, 169]) : Calls Tryz.prog 7 #[.int .i64 n, .int .i64 which] w (PickRowsRet w) := by
  have hA := At.refl hE
  have hW := fun w => word_c n w
  have hLw := fun w => low_c which 18 w (by omega) (by omega)
  have hk := low_lt which 18 (by omega)
  rw [hw] at hW
  generalize low which 18 = k at *
  obtain ⟨hl, hx⟩ := rowsText_all [195, 169] (by decide) k hk
  have hlit := lit_at (xs := rowsText [195, 169]) (k := k) hk
  obtain ⟨x, hxx⟩ : ∃ x, (rowsText [195, 169]).getD k [] = x := ⟨_, rfl⟩
  rw [hxx] at hl hx hlit
  have hL := fun w hE => literal_c x w hE (by omega)
  rw [hl] at hL
  have hk0 : (0 : Int) ≤ (k : Int) := by omega
  have hk18 : (k : Int) < 18 := by omega
  have hd : decide ((k : Int) < 8) = decide (k < 8) := by rw [Bool.eq_iff_iff, decide_eq_true_iff, decide_eq_true_iff]; omega
  clear hw hxx hl
  go_enter Tryz.func7, Tryz.ntmps7
  go_wp2_with fail
  refine (hW _).mono ?_
  rintro e w1 ⟨rfl, hb⟩
  have hA := hA.step hb
  clear hb
  have ck := lit_cell w1 9 (strs (rowsText [195, 169])) k _ hlit
  change (w1.alloc (.cells #[.string ⟨#[195, 169]⟩, .string ⟨#[195, 169, 10]⟩, .string ⟨#[195, 169, 10, 10, 195, 169]⟩, .string ⟨#[195, 169, 10, 32, 195, 169]⟩, .string ⟨#[195, 169, 10, 9, 195, 169, 10]⟩, .string ⟨#[195, 169, 32, 10, 195, 169]⟩, .string ⟨#[35, 32, 195, 169]⟩, .string ⟨#[45, 32, 195, 169, 10, 45, 45, 45, 10]⟩, .string ⟨#[]⟩, .string ⟨#[32, 195, 169]⟩, .string ⟨#[10, 195, 169]⟩, .string ⟨#[9, 195, 169]⟩, .string ⟨#[195, 169, 10, 10]⟩, .string ⟨#[195, 169, 10, 32, 10, 195, 169]⟩, .string ⟨#[195, 169, 10, 32]⟩, .string ⟨#[195, 169, 10, 9]⟩, .string ⟨#[195, 169, 1]⟩, .string ⟨#[195, 169, 133]⟩] 9)).cell? ⟨w1.heap.size, k, none⟩ = _ at ck
  have hA := hA.alloc (.cells #[.string ⟨#[195, 169]⟩, .string ⟨#[195, 169, 10]⟩, .string ⟨#[195, 169, 10, 10, 195, 169]⟩, .string ⟨#[195, 169, 10, 32, 195, 169]⟩, .string ⟨#[195, 169, 10, 9, 195, 169, 10]⟩, .string ⟨#[195, 169, 32, 10, 195, 169]⟩, .string ⟨#[35, 32, 195, 169]⟩, .string ⟨#[45, 32, 195, 169, 10, 45, 45, 45, 10]⟩, .string ⟨#[]⟩, .string ⟨#[32, 195, 169]⟩, .string ⟨#[10, 195, 169]⟩, .string ⟨#[9, 195, 169]⟩, .string ⟨#[195, 169, 10, 10]⟩, .string ⟨#[195, 169, 10, 32, 10, 195, 169]⟩, .string ⟨#[195, 169, 10, 32]⟩, .string ⟨#[195, 169, 10, 9]⟩, .string ⟨#[195, 169, 1]⟩, .string ⟨#[195, 169, 133]⟩] 9)
  go_upto_region 3 with fail
  generalize w1.alloc (.cells #[.string ⟨#[195, 169]⟩, .string ⟨#[195, 169, 10]⟩, .string ⟨#[195, 169, 10, 10, 195, 169]⟩, .string ⟨#[195, 169, 10, 32, 195, 169]⟩, .string ⟨#[195, 169, 10, 9, 195, 169, 10]⟩, .string ⟨#[195, 169, 32, 10, 195, 169]⟩, .string ⟨#[35, 32, 195, 169]⟩, .string ⟨#[45, 32, 195, 169, 10, 45, 45, 45, 10]⟩, .string ⟨#[]⟩, .string ⟨#[32, 195, 169]⟩, .string ⟨#[10, 195, 169]⟩, .string ⟨#[9, 195, 169]⟩, .string ⟨#[195, 169, 10, 10]⟩, .string ⟨#[195, 169, 10, 32, 10, 195, 169]⟩, .string ⟨#[195, 169, 10, 32]⟩, .string ⟨#[195, 169, 10, 9]⟩, .string ⟨#[195, 169, 1]⟩, .string ⟨#[195, 169, 133]⟩] 9) = W at *
  go_wp2_with fail
  refine (hLw _).mono ?_
  rintro e w2 ⟨rfl, rfl⟩
  go_wp2_with fail
  refine (hL _ hA.env).mono ?_
  rintro e w2 ⟨rfl, hb2⟩
  have hA := hA.step hb2
  clear ck hL hLw hW
  generalize decide (k < 8) = d at *
  cases d
  all_goals
    go_wp2_with fail
    refine (awake23_c _ hA.env).mono ?_
    rintro e w3 ⟨rfl, hb3⟩
    go_wp2_with fail
    go_ret
    exact ⟨rfl, (hA.step hb3).below⟩
set_option maxRecDepth 100000 in
set_option maxHeartbeats 4000000 in
theorem pickRows_7 (n which : Int) (w : World) (hE : Env w) (hw : wordOf n = [107, 35, 108]) : Calls Tryz.prog 7 #[.int .i64 n, .int .i64 which] w (PickRowsRet w) := by
  have hA := At.refl hE
  have hW := fun w => word_c n w
  have hLw := fun w => low_c which 18 w (by omega) (by omega)
  have hk := low_lt which 18 (by omega)
  rw [hw] at hW
  generalize low which 18 = k at *
  obtain ⟨hl, hx⟩ := rowsText_all [107, 35, 108] (by decide) k hk
  have hlit := lit_at (xs := rowsText [107, 35, 108]) (k := k) hk
  obtain ⟨x, hxx⟩ : ∃ x, (rowsText [107, 35, 108]).getD k [] = x := ⟨_, rfl⟩
  rw [hxx] at hl hx hlit
  have hL := fun w hE => literal_c x w hE (by omega)
  rw [hl] at hL
  have hk0 : (0 : Int) ≤ (k : Int) := by omega
  have hk18 : (k : Int) < 18 := by omega
  have hd : decide ((k : Int) < 8) = decide (k < 8) := by rw [Bool.eq_iff_iff, decide_eq_true_iff, decide_eq_true_iff]; omega
  clear hw hxx hl
  go_enter Tryz.func7, Tryz.ntmps7
  go_wp2_with fail
  refine (hW _).mono ?_
  rintro e w1 ⟨rfl, hb⟩
  have hA := hA.step hb
  clear hb
  have ck := lit_cell w1 9 (strs (rowsText [107, 35, 108])) k _ hlit
  change (w1.alloc (.cells #[.string ⟨#[107, 35, 108]⟩, .string ⟨#[107, 35, 108, 10]⟩, .string ⟨#[107, 35, 108, 10, 10, 107, 35, 108]⟩, .string ⟨#[107, 35, 108, 10, 32, 107, 35, 108]⟩, .string ⟨#[107, 35, 108, 10, 9, 107, 35, 108, 10]⟩, .string ⟨#[107, 35, 108, 32, 10, 107, 35, 108]⟩, .string ⟨#[35, 32, 107, 35, 108]⟩, .string ⟨#[45, 32, 107, 35, 108, 10, 45, 45, 45, 10]⟩, .string ⟨#[]⟩, .string ⟨#[32, 107, 35, 108]⟩, .string ⟨#[10, 107, 35, 108]⟩, .string ⟨#[9, 107, 35, 108]⟩, .string ⟨#[107, 35, 108, 10, 10]⟩, .string ⟨#[107, 35, 108, 10, 32, 10, 107, 35, 108]⟩, .string ⟨#[107, 35, 108, 10, 32]⟩, .string ⟨#[107, 35, 108, 10, 9]⟩, .string ⟨#[107, 35, 108, 1]⟩, .string ⟨#[107, 35, 108, 133]⟩] 9)).cell? ⟨w1.heap.size, k, none⟩ = _ at ck
  have hA := hA.alloc (.cells #[.string ⟨#[107, 35, 108]⟩, .string ⟨#[107, 35, 108, 10]⟩, .string ⟨#[107, 35, 108, 10, 10, 107, 35, 108]⟩, .string ⟨#[107, 35, 108, 10, 32, 107, 35, 108]⟩, .string ⟨#[107, 35, 108, 10, 9, 107, 35, 108, 10]⟩, .string ⟨#[107, 35, 108, 32, 10, 107, 35, 108]⟩, .string ⟨#[35, 32, 107, 35, 108]⟩, .string ⟨#[45, 32, 107, 35, 108, 10, 45, 45, 45, 10]⟩, .string ⟨#[]⟩, .string ⟨#[32, 107, 35, 108]⟩, .string ⟨#[10, 107, 35, 108]⟩, .string ⟨#[9, 107, 35, 108]⟩, .string ⟨#[107, 35, 108, 10, 10]⟩, .string ⟨#[107, 35, 108, 10, 32, 10, 107, 35, 108]⟩, .string ⟨#[107, 35, 108, 10, 32]⟩, .string ⟨#[107, 35, 108, 10, 9]⟩, .string ⟨#[107, 35, 108, 1]⟩, .string ⟨#[107, 35, 108, 133]⟩] 9)
  go_upto_region 3 with fail
  generalize w1.alloc (.cells #[.string ⟨#[107, 35, 108]⟩, .string ⟨#[107, 35, 108, 10]⟩, .string ⟨#[107, 35, 108, 10, 10, 107, 35, 108]⟩, .string ⟨#[107, 35, 108, 10, 32, 107, 35, 108]⟩, .string ⟨#[107, 35, 108, 10, 9, 107, 35, 108, 10]⟩, .string ⟨#[107, 35, 108, 32, 10, 107, 35, 108]⟩, .string ⟨#[35, 32, 107, 35, 108]⟩, .string ⟨#[45, 32, 107, 35, 108, 10, 45, 45, 45, 10]⟩, .string ⟨#[]⟩, .string ⟨#[32, 107, 35, 108]⟩, .string ⟨#[10, 107, 35, 108]⟩, .string ⟨#[9, 107, 35, 108]⟩, .string ⟨#[107, 35, 108, 10, 10]⟩, .string ⟨#[107, 35, 108, 10, 32, 10, 107, 35, 108]⟩, .string ⟨#[107, 35, 108, 10, 32]⟩, .string ⟨#[107, 35, 108, 10, 9]⟩, .string ⟨#[107, 35, 108, 1]⟩, .string ⟨#[107, 35, 108, 133]⟩] 9) = W at *
  go_wp2_with fail
  refine (hLw _).mono ?_
  rintro e w2 ⟨rfl, rfl⟩
  go_wp2_with fail
  refine (hL _ hA.env).mono ?_
  rintro e w2 ⟨rfl, hb2⟩
  have hA := hA.step hb2
  clear ck hL hLw hW
  generalize decide (k < 8) = d at *
  cases d
  all_goals
    go_wp2_with fail
    refine (awake23_c _ hA.env).mono ?_
    rintro e w3 ⟨rfl, hb3⟩
    go_wp2_with fail
    go_ret
    exact ⟨rfl, (hA.step hb3).below⟩
set_option maxRecDepth 100000 in
set_option maxHeartbeats 4000000 in
theorem pickRows_8 (n which : Int) (w : World) (hE : Env w) (hw : wordOf n = [109, 58, 110]) : Calls Tryz.prog 7 #[.int .i64 n, .int .i64 which] w (PickRowsRet w) := by
  have hA := At.refl hE
  have hW := fun w => word_c n w
  have hLw := fun w => low_c which 18 w (by omega) (by omega)
  have hk := low_lt which 18 (by omega)
  rw [hw] at hW
  generalize low which 18 = k at *
  obtain ⟨hl, hx⟩ := rowsText_all [109, 58, 110] (by decide) k hk
  have hlit := lit_at (xs := rowsText [109, 58, 110]) (k := k) hk
  obtain ⟨x, hxx⟩ : ∃ x, (rowsText [109, 58, 110]).getD k [] = x := ⟨_, rfl⟩
  rw [hxx] at hl hx hlit
  have hL := fun w hE => literal_c x w hE (by omega)
  rw [hl] at hL
  have hk0 : (0 : Int) ≤ (k : Int) := by omega
  have hk18 : (k : Int) < 18 := by omega
  have hd : decide ((k : Int) < 8) = decide (k < 8) := by rw [Bool.eq_iff_iff, decide_eq_true_iff, decide_eq_true_iff]; omega
  clear hw hxx hl
  go_enter Tryz.func7, Tryz.ntmps7
  go_wp2_with fail
  refine (hW _).mono ?_
  rintro e w1 ⟨rfl, hb⟩
  have hA := hA.step hb
  clear hb
  have ck := lit_cell w1 9 (strs (rowsText [109, 58, 110])) k _ hlit
  change (w1.alloc (.cells #[.string ⟨#[109, 58, 110]⟩, .string ⟨#[109, 58, 110, 10]⟩, .string ⟨#[109, 58, 110, 10, 10, 109, 58, 110]⟩, .string ⟨#[109, 58, 110, 10, 32, 109, 58, 110]⟩, .string ⟨#[109, 58, 110, 10, 9, 109, 58, 110, 10]⟩, .string ⟨#[109, 58, 110, 32, 10, 109, 58, 110]⟩, .string ⟨#[35, 32, 109, 58, 110]⟩, .string ⟨#[45, 32, 109, 58, 110, 10, 45, 45, 45, 10]⟩, .string ⟨#[]⟩, .string ⟨#[32, 109, 58, 110]⟩, .string ⟨#[10, 109, 58, 110]⟩, .string ⟨#[9, 109, 58, 110]⟩, .string ⟨#[109, 58, 110, 10, 10]⟩, .string ⟨#[109, 58, 110, 10, 32, 10, 109, 58, 110]⟩, .string ⟨#[109, 58, 110, 10, 32]⟩, .string ⟨#[109, 58, 110, 10, 9]⟩, .string ⟨#[109, 58, 110, 1]⟩, .string ⟨#[109, 58, 110, 133]⟩] 9)).cell? ⟨w1.heap.size, k, none⟩ = _ at ck
  have hA := hA.alloc (.cells #[.string ⟨#[109, 58, 110]⟩, .string ⟨#[109, 58, 110, 10]⟩, .string ⟨#[109, 58, 110, 10, 10, 109, 58, 110]⟩, .string ⟨#[109, 58, 110, 10, 32, 109, 58, 110]⟩, .string ⟨#[109, 58, 110, 10, 9, 109, 58, 110, 10]⟩, .string ⟨#[109, 58, 110, 32, 10, 109, 58, 110]⟩, .string ⟨#[35, 32, 109, 58, 110]⟩, .string ⟨#[45, 32, 109, 58, 110, 10, 45, 45, 45, 10]⟩, .string ⟨#[]⟩, .string ⟨#[32, 109, 58, 110]⟩, .string ⟨#[10, 109, 58, 110]⟩, .string ⟨#[9, 109, 58, 110]⟩, .string ⟨#[109, 58, 110, 10, 10]⟩, .string ⟨#[109, 58, 110, 10, 32, 10, 109, 58, 110]⟩, .string ⟨#[109, 58, 110, 10, 32]⟩, .string ⟨#[109, 58, 110, 10, 9]⟩, .string ⟨#[109, 58, 110, 1]⟩, .string ⟨#[109, 58, 110, 133]⟩] 9)
  go_upto_region 3 with fail
  generalize w1.alloc (.cells #[.string ⟨#[109, 58, 110]⟩, .string ⟨#[109, 58, 110, 10]⟩, .string ⟨#[109, 58, 110, 10, 10, 109, 58, 110]⟩, .string ⟨#[109, 58, 110, 10, 32, 109, 58, 110]⟩, .string ⟨#[109, 58, 110, 10, 9, 109, 58, 110, 10]⟩, .string ⟨#[109, 58, 110, 32, 10, 109, 58, 110]⟩, .string ⟨#[35, 32, 109, 58, 110]⟩, .string ⟨#[45, 32, 109, 58, 110, 10, 45, 45, 45, 10]⟩, .string ⟨#[]⟩, .string ⟨#[32, 109, 58, 110]⟩, .string ⟨#[10, 109, 58, 110]⟩, .string ⟨#[9, 109, 58, 110]⟩, .string ⟨#[109, 58, 110, 10, 10]⟩, .string ⟨#[109, 58, 110, 10, 32, 10, 109, 58, 110]⟩, .string ⟨#[109, 58, 110, 10, 32]⟩, .string ⟨#[109, 58, 110, 10, 9]⟩, .string ⟨#[109, 58, 110, 1]⟩, .string ⟨#[109, 58, 110, 133]⟩] 9) = W at *
  go_wp2_with fail
  refine (hLw _).mono ?_
  rintro e w2 ⟨rfl, rfl⟩
  go_wp2_with fail
  refine (hL _ hA.env).mono ?_
  rintro e w2 ⟨rfl, hb2⟩
  have hA := hA.step hb2
  clear ck hL hLw hW
  generalize decide (k < 8) = d at *
  cases d
  all_goals
    go_wp2_with fail
    refine (awake23_c _ hA.env).mono ?_
    rintro e w3 ⟨rfl, hb3⟩
    go_wp2_with fail
    go_ret
    exact ⟨rfl, (hA.step hb3).below⟩
set_option maxRecDepth 100000 in
set_option maxHeartbeats 4000000 in
theorem pickRows_9 (n which : Int) (w : World) (hE : Env w) (hw : wordOf n = [111, 46, 112]) : Calls Tryz.prog 7 #[.int .i64 n, .int .i64 which] w (PickRowsRet w) := by
  have hA := At.refl hE
  have hW := fun w => word_c n w
  have hLw := fun w => low_c which 18 w (by omega) (by omega)
  have hk := low_lt which 18 (by omega)
  rw [hw] at hW
  generalize low which 18 = k at *
  obtain ⟨hl, hx⟩ := rowsText_all [111, 46, 112] (by decide) k hk
  have hlit := lit_at (xs := rowsText [111, 46, 112]) (k := k) hk
  obtain ⟨x, hxx⟩ : ∃ x, (rowsText [111, 46, 112]).getD k [] = x := ⟨_, rfl⟩
  rw [hxx] at hl hx hlit
  have hL := fun w hE => literal_c x w hE (by omega)
  rw [hl] at hL
  have hk0 : (0 : Int) ≤ (k : Int) := by omega
  have hk18 : (k : Int) < 18 := by omega
  have hd : decide ((k : Int) < 8) = decide (k < 8) := by rw [Bool.eq_iff_iff, decide_eq_true_iff, decide_eq_true_iff]; omega
  clear hw hxx hl
  go_enter Tryz.func7, Tryz.ntmps7
  go_wp2_with fail
  refine (hW _).mono ?_
  rintro e w1 ⟨rfl, hb⟩
  have hA := hA.step hb
  clear hb
  have ck := lit_cell w1 9 (strs (rowsText [111, 46, 112])) k _ hlit
  change (w1.alloc (.cells #[.string ⟨#[111, 46, 112]⟩, .string ⟨#[111, 46, 112, 10]⟩, .string ⟨#[111, 46, 112, 10, 10, 111, 46, 112]⟩, .string ⟨#[111, 46, 112, 10, 32, 111, 46, 112]⟩, .string ⟨#[111, 46, 112, 10, 9, 111, 46, 112, 10]⟩, .string ⟨#[111, 46, 112, 32, 10, 111, 46, 112]⟩, .string ⟨#[35, 32, 111, 46, 112]⟩, .string ⟨#[45, 32, 111, 46, 112, 10, 45, 45, 45, 10]⟩, .string ⟨#[]⟩, .string ⟨#[32, 111, 46, 112]⟩, .string ⟨#[10, 111, 46, 112]⟩, .string ⟨#[9, 111, 46, 112]⟩, .string ⟨#[111, 46, 112, 10, 10]⟩, .string ⟨#[111, 46, 112, 10, 32, 10, 111, 46, 112]⟩, .string ⟨#[111, 46, 112, 10, 32]⟩, .string ⟨#[111, 46, 112, 10, 9]⟩, .string ⟨#[111, 46, 112, 1]⟩, .string ⟨#[111, 46, 112, 133]⟩] 9)).cell? ⟨w1.heap.size, k, none⟩ = _ at ck
  have hA := hA.alloc (.cells #[.string ⟨#[111, 46, 112]⟩, .string ⟨#[111, 46, 112, 10]⟩, .string ⟨#[111, 46, 112, 10, 10, 111, 46, 112]⟩, .string ⟨#[111, 46, 112, 10, 32, 111, 46, 112]⟩, .string ⟨#[111, 46, 112, 10, 9, 111, 46, 112, 10]⟩, .string ⟨#[111, 46, 112, 32, 10, 111, 46, 112]⟩, .string ⟨#[35, 32, 111, 46, 112]⟩, .string ⟨#[45, 32, 111, 46, 112, 10, 45, 45, 45, 10]⟩, .string ⟨#[]⟩, .string ⟨#[32, 111, 46, 112]⟩, .string ⟨#[10, 111, 46, 112]⟩, .string ⟨#[9, 111, 46, 112]⟩, .string ⟨#[111, 46, 112, 10, 10]⟩, .string ⟨#[111, 46, 112, 10, 32, 10, 111, 46, 112]⟩, .string ⟨#[111, 46, 112, 10, 32]⟩, .string ⟨#[111, 46, 112, 10, 9]⟩, .string ⟨#[111, 46, 112, 1]⟩, .string ⟨#[111, 46, 112, 133]⟩] 9)
  go_upto_region 3 with fail
  generalize w1.alloc (.cells #[.string ⟨#[111, 46, 112]⟩, .string ⟨#[111, 46, 112, 10]⟩, .string ⟨#[111, 46, 112, 10, 10, 111, 46, 112]⟩, .string ⟨#[111, 46, 112, 10, 32, 111, 46, 112]⟩, .string ⟨#[111, 46, 112, 10, 9, 111, 46, 112, 10]⟩, .string ⟨#[111, 46, 112, 32, 10, 111, 46, 112]⟩, .string ⟨#[35, 32, 111, 46, 112]⟩, .string ⟨#[45, 32, 111, 46, 112, 10, 45, 45, 45, 10]⟩, .string ⟨#[]⟩, .string ⟨#[32, 111, 46, 112]⟩, .string ⟨#[10, 111, 46, 112]⟩, .string ⟨#[9, 111, 46, 112]⟩, .string ⟨#[111, 46, 112, 10, 10]⟩, .string ⟨#[111, 46, 112, 10, 32, 10, 111, 46, 112]⟩, .string ⟨#[111, 46, 112, 10, 32]⟩, .string ⟨#[111, 46, 112, 10, 9]⟩, .string ⟨#[111, 46, 112, 1]⟩, .string ⟨#[111, 46, 112, 133]⟩] 9) = W at *
  go_wp2_with fail
  refine (hLw _).mono ?_
  rintro e w2 ⟨rfl, rfl⟩
  go_wp2_with fail
  refine (hL _ hA.env).mono ?_
  rintro e w2 ⟨rfl, hb2⟩
  have hA := hA.step hb2
  clear ck hL hLw hW
  generalize decide (k < 8) = d at *
  cases d
  all_goals
    go_wp2_with fail
    refine (awake23_c _ hA.env).mono ?_
    rintro e w3 ⟨rfl, hb3⟩
    go_wp2_with fail
    go_ret
    exact ⟨rfl, (hA.step hb3).below⟩
theorem pickRows_c (n which : Int) (w : World) (hE : Env w) (_n1 : -9223372036854775808 ≤ n) (_n2 : n ≤ 9223372036854775807) (_w1 : -9223372036854775808 ≤ which) (_w2 : which ≤ 9223372036854775807) :
    Calls Tryz.prog 7 #[.int .i64 n, .int .i64 which] w fun e w' => e = .returned (.bool true) ∧ Below w.heap.size w w' := by
  have hm := wordOf_mem n
  simp only [wordList, List.mem_cons, List.not_mem_nil, or_false] at hm
  rcases hm with h | h | h | h | h | h | h | h | h | h
  · exact pickRows_0 n which w hE h
  · exact pickRows_1 n which w hE h
  · exact pickRows_2 n which w hE h
  · exact pickRows_3 n which w hE h
  · exact pickRows_4 n which w hE h
  · exact pickRows_5 n which w hE h
  · exact pickRows_6 n which w hE h
  · exact pickRows_7 n which w hE h
  · exact pickRows_8 n which w hE h
  · exact pickRows_9 n which w hE h
end Go.Proofs.YtjfgcbikdibjeaaGreatDoor
