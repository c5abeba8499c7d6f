/- The walks of package esca: what an escape tells. -/
import Derived.Test.YtjfgcbikdibjeaaGreatDoorBase
import Derived.Test.YtjfgcbikdibjeaaGreatDoorPAllA
import Derived.Test.YtjfgcbikdibjeaaGreatDoorShelf
namespace Go.Proofs.YtjfgcbikdibjeaaGreatDoor
open Go.RowKit U Go.Proofs

/-- It answers so, and leaves the world alone. -/
def Same (w : World) (v : Value) (e : Ending) (w' : World) : Prop := e = .returned v ∧ w = w'
theorem letters_or (c : Nat) : (∃ i, i < 18 ∧ escL.getD i 0 = c) ∨ (∀ i, i < 18 → escL.getD i 0 ≠ c) := by
  by_cases h : ∃ i, i < 18 ∧ escL.getD i 0 = c
  · exact .inl h
  · exact .inr fun i hi he => h ⟨i, hi, he⟩
set_option maxRecDepth 100000 in
set_option maxHeartbeats 8000000 in
theorem short_c (c : Nat) (w : World) (hc : c < 256) : Calls Tryz.prog 177 #[.int .u8 c] w (Same w (.tuple #[.int .i32 (((shortM c).getD 0 : Nat) : Int), .bool (shortM c).isSome])) := by
  unfold Same
  rcases letters_or c with ⟨i, hi, rfl⟩ | hn
  · rw [short_get i hi]
    rcases (show i = 0 ∨ i = 1 ∨ i = 2 ∨ i = 3 ∨ i = 4 ∨ i = 5 ∨ i = 6 ∨ i = 7 ∨ i = 8 ∨ i = 9 ∨ i = 10 ∨ i = 11 ∨ i = 12 ∨ i = 13 ∨ i = 14 ∨ i = 15 ∨ i = 16 ∨ i = 17 by omega) with rfl | rfl | rfl | rfl | rfl | rfl | rfl | rfl | rfl | rfl | rfl | rfl | rfl | rfl | rfl | rfl | rfl | rfl
    all_goals
      clear hi hc
      simp only [escL, escV, List.getD_cons_zero, List.getD_cons_succ, Option.getD_some, Option.isSome_some]
      go_enter Tryz.func177, Tryz.ntmps177
      go_wp2_with fail
      go_ret2
      exact ⟨rfl, rfl⟩
  · rw [short_none hn]
    have n0 : ((c : Int) == 48) = false := by have := hn 0 (by omega); simp [escL] at this; rw [beq_eq_false_iff_ne]; omega
    have n1 : ((c : Int) == 97) = false := by have := hn 1 (by omega); simp [escL] at this; rw [beq_eq_false_iff_ne]; omega
    have n2 : ((c : Int) == 98) = false := by have := hn 2 (by omega); simp [escL] at this; rw [beq_eq_false_iff_ne]; omega
    have n3 : ((c : Int) == 116) = false := by have := hn 3 (by omega); simp [escL] at this; rw [beq_eq_false_iff_ne]; omega
    have n4 : ((c : Int) == 110) = false := by have := hn 4 (by omega); simp [escL] at this; rw [beq_eq_false_iff_ne]; omega
    have n5 : ((c : Int) == 118) = false := by have := hn 5 (by omega); simp [escL] at this; rw [beq_eq_false_iff_ne]; omega
    have n6 : ((c : Int) == 102) = false := by have := hn 6 (by omega); simp [escL] at this; rw [beq_eq_false_iff_ne]; omega
    have n7 : ((c : Int) == 114) = false := by have := hn 7 (by omega); simp [escL] at this; rw [beq_eq_false_iff_ne]; omega
    have n8 : ((c : Int) == 101) = false := by have := hn 8 (by omega); simp [escL] at this; rw [beq_eq_false_iff_ne]; omega
    have n9 : ((c : Int) == 9) = false := by have := hn 9 (by omega); simp [escL] at this; rw [beq_eq_false_iff_ne]; omega
    have n10 : ((c : Int) == 32) = false := by have := hn 10 (by omega); simp [escL] at this; rw [beq_eq_false_iff_ne]; omega
    have n11 : ((c : Int) == 34) = false := by have := hn 11 (by omega); simp [escL] at this; rw [beq_eq_false_iff_ne]; omega
    have n12 : ((c : Int) == 47) = false := by have := hn 12 (by omega); simp [escL] at this; rw [beq_eq_false_iff_ne]; omega
    have n13 : ((c : Int) == 92) = false := by have := hn 13 (by omega); simp [escL] at this; rw [beq_eq_false_iff_ne]; omega
    have n14 : ((c : Int) == 78) = false := by have := hn 14 (by omega); simp [escL] at this; rw [beq_eq_false_iff_ne]; omega
    have n15 : ((c : Int) == 95) = false := by have := hn 15 (by omega); simp [escL] at this; rw [beq_eq_false_iff_ne]; omega
    have n16 : ((c : Int) == 76) = false := by have := hn 16 (by omega); simp [escL] at this; rw [beq_eq_false_iff_ne]; omega
    have n17 : ((c : Int) == 80) = false := by have := hn 17 (by omega); simp [escL] at this; rw [beq_eq_false_iff_ne]; omega
    clear hn
    go_enter Tryz.func177, Tryz.ntmps177
    go_wp2_with fail
    go_ret2
    exact ⟨rfl, rfl⟩
set_option maxRecDepth 100000 in
set_option maxHeartbeats 1000000 in
theorem edigits_c (c : Nat) (w : World) (hc : c < 256) : Calls Tryz.prog 178 #[.int .u8 c] w (Same w (.int .i64 (digM c))) := by
  unfold Same
  have hd : digM c = if c = 120 then 2 else if c = 117 then 4 else if c = 85 then 8 else 0 := rfl
  by_cases h1 : c = 120
  · subst h1
    clear hd hc
    go_enter Tryz.func178, Tryz.ntmps178
    go_wp2_with fail
    go_ret
    exact ⟨rfl, rfl⟩
  by_cases h2 : c = 117
  · subst h2
    clear hd hc h1
    go_enter Tryz.func178, Tryz.ntmps178
    go_wp2_with fail
    go_ret
    exact ⟨rfl, rfl⟩
  by_cases h3 : c = 85
  · subst h3
    clear hd hc h1 h2
    go_enter Tryz.func178, Tryz.ntmps178
    go_wp2_with fail
    go_ret
    exact ⟨rfl, rfl⟩
  have HD : Hid (digM c = 0) := Lib.hid (by rw [hd, if_neg h1, if_neg h2, if_neg h3])
  have g1 : ((c : Int) == 120) = false := by rw [beq_eq_false_iff_ne]; omega
  have g2 : ((c : Int) == 117) = false := by rw [beq_eq_false_iff_ne]; omega
  have g3 : ((c : Int) == 85) = false := by rw [beq_eq_false_iff_ne]; omega
  clear hd h1 h2 h3
  generalize digM c = n at *
  go_enter Tryz.func178, Tryz.ntmps178
  go_wp2_with fail
  go_ret
  exact ⟨ret_int (by rw [HD.out]; rfl), rfl⟩
end Go.Proofs.YtjfgcbikdibjeaaGreatDoor
