/- The walks of the document's answer of 5.1. -/
import Derived.Test.YtjfgcbikdibjeaaGreatDoorWEscaRead
import Derived.Test.YtjfgcbikdibjeaaGreatDoorWEncB
import Derived.Deep.QuietTactic
import Derived.BigQuiet
namespace Go.Proofs.YtjfgcbikdibjeaaGreatDoor
open Go.RowKit U Go.Proofs

set_option maxRecDepth 100000 in
set_option maxHeartbeats 8000000 in
theorem rtold_c (i : Nat) (w : World) (hi : i < 18) : Calls Tryz.prog 138 #[.int .i64 i] w (Same w (.int .i32 ((escV.getD i 0 : Nat) : Int))) := by
  unfold Same
  rcases (show i = 0 ∨ i = 1 ∨ i = 2 ∨ i = 3 ∨ i = 4 ∨ i = 5 ∨ i = 6 ∨ i = 7 ∨ i = 8 ∨ i = 9 ∨ i = 10 ∨ i = 11 ∨ i = 12 ∨ i = 13 ∨ i = 14 ∨ i = 15 ∨ i = 16 ∨ i = 17 by omega) with rfl | rfl | rfl | rfl | rfl | rfl | rfl | rfl | rfl | rfl | rfl | rfl | rfl | rfl | rfl | rfl | rfl | rfl
  all_goals
    clear hi
    simp only [escV, List.getD_cons_zero, List.getD_cons_succ]
    go_enter Tryz.func138, Tryz.ntmps138
    go_wp2_with fail
    go_ret
    first
      | exact ⟨rfl, rfl⟩
      | exact ⟨ret_int (by decide +kernel), rfl⟩
def hexV (c : Nat) : Int := match hexD c with | some d => (d : Int) | none => -1
set_option maxRecDepth 100000 in
set_option maxHeartbeats 2000000 in
theorem rhex_c (c : Nat) (w : World) (hc : c < 256) : Calls Tryz.prog 171 #[.int .u8 c] w (Same w (.int .i32 (hexV c))) := by
  unfold Same
  have hv : hexV c = if 48 ≤ c ∧ c ≤ 57 then (c : Int) - 48 else if 97 ≤ c ∧ c ≤ 102 then (c : Int) - 97 + 10 else if 65 ≤ c ∧ c ≤ 70 then (c : Int) - 65 + 10 else -1 := by
    unfold hexV hexD
    split
    · rename_i d h
      split at h
      · injection h with h; rw [if_pos (by omega)]; omega
      · split at h
        · injection h with h; rw [if_neg (by omega), if_pos (by omega)]; omega
        · split at h
          · injection h with h; rw [if_neg (by omega), if_neg (by omega), if_pos (by omega)]; omega
          · cases h
    · rename_i h
      split at h
      · cases h
      · split at h
        · cases h
        · split at h
          · cases h
          · rw [if_neg (by omega), if_neg (by omega), if_neg (by omega)]
  generalize hexV c = v at *
  have HV := Lib.hid hv
  clear hv
  by_cases h1 : 48 ≤ c ∧ c ≤ 57
  · have HE : Hid (v = (c : Int) - 48) := Lib.hid (by rw [HV.out, if_pos h1])
    obtain ⟨h2, h3⟩ := h1
    clear HV
    go_enter Tryz.func171, Tryz.ntmps171
    go_wp2_with fail
    go_ret
    exact ⟨ret_int (by rw [HE.out]), rfl⟩
  by_cases h2 : 97 ≤ c ∧ c ≤ 102
  · have HE : Hid (v = (c : Int) - 97 + 10) := Lib.hid (by rw [HV.out, if_neg h1, if_pos h2])
    obtain ⟨h3, h4⟩ := h2
    clear HV h1
    go_enter Tryz.func171, Tryz.ntmps171
    go_wp2_with fail
    go_ret
    exact ⟨ret_int (by rw [HE.out]), rfl⟩
  by_cases h3 : 65 ≤ c ∧ c ≤ 70
  · have HE : Hid (v = (c : Int) - 65 + 10) := Lib.hid (by rw [HV.out, if_neg h1, if_neg h2, if_pos h3])
    obtain ⟨h4, h5⟩ := h3
    clear HV h1 h2
    go_enter Tryz.func171, Tryz.ntmps171
    go_wp2_with fail
    go_ret
    exact ⟨ret_int (by rw [HE.out]), rfl⟩
  have HE : Hid (v = -1) := Lib.hid (by rw [HV.out, if_neg h1, if_neg h2, if_neg h3])
  clear HV
  go_enter Tryz.func171, Tryz.ntmps171
  go_wp2_with fail
  all_goals first
    | (exfalso; omega)
    | (go_ret; exact ⟨ret_int (by rw [HE.out]), rfl⟩)
theorem letters_at : ∀ i, i < 18 → byt [48, 97, 98, 116, 110, 118, 102, 114, 101, 9, 32, 34, 47, 92, 78, 95, 76, 80] i = escL.getD i 0 := by decide
theorem scal_scalar (r : Nat) : scal (r : Int) = decide (scalarN r) := by
  unfold scal scalarN
  rw [Bool.eq_iff_iff]
  simp
  omega
/-- It answers so, and nothing but draws has turned. -/
def QRet (r : Int × Int × Int) (w : World) (e : Ending) (w' : World) : Prop := e = .returned (.tuple #[.int .i32 r.1, .int .i64 r.2.1, .int .i64 r.2.2]) ∧ ∃ n, w' = w.drewN n
end Go.Proofs.YtjfgcbikdibjeaaGreatDoor
