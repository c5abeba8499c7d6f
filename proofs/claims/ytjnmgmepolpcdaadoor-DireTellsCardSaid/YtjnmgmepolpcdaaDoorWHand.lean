/- The walks of package hand: Size and what it calls. -/
import Derived.Test.YtjnmgmepolpcdaaDoorWSign
import Derived.Test.YtjnmgmepolpcdaaDoorPHand
import Derived.Test.YtjnmgmepolpcdaaDoorWCore
namespace Go.Proofs.YtjnmgmepolpcdaaDoor
open Go.RowKit U Go.Proofs

set_option maxRecDepth 100000 in
set_option maxHeartbeats 1000000 in
theorem hhex_c (b : Nat) (w : World) (_hb : b < 256) : Calls Tryd.prog 145 #[.int .u8 b] w fun e w' => e = .returned (.bool (hexN b)) ∧ w = w' := by
  unfold hexN
  go_enter Tryd.func145, Tryd.ntmps145
  go_wp2
  all_goals (go_ret; refine ⟨ret_bool ?_, rfl⟩)
  all_goals (rw [Bool.eq_iff_iff]; simp at *; omega)
set_option maxRecDepth 100000 in
set_option maxHeartbeats 4000000 in
theorem uri_c (b : Nat) (w : World) (hb : b < 256) : Calls Tryd.prog 142 #[.int .u8 b] w fun e w' => e = .returned (.bool (uriN b)) ∧ w = w' := by
  have hW := fun w => sword_c b w hb
  unfold wordN at hW
  by_cases h : (b = 35 ∨ b = 59 ∨ b = 47 ∨ b = 63 ∨ b = 58 ∨ b = 64 ∨ b = 38 ∨ b = 61 ∨ b = 43 ∨ b = 36 ∨ b = 95 ∨ b = 46 ∨ b = 33 ∨ b = 126 ∨ b = 42 ∨ b = 39 ∨ b = 40 ∨ b = 41 ∨ b = 37 ∨ b = 44 ∨ b = 91 ∨ b = 93)
  · have hu : uriN b = true := by unfold uriN; rw [decide_eq_true_eq]; exact .inl h
    have HU := Lib.hid hu
    clear hu hW
    rcases h with rfl | rfl | rfl | rfl | rfl | rfl | rfl | rfl | rfl | rfl | rfl | rfl | rfl | rfl | rfl | rfl | rfl | rfl | rfl | rfl | rfl | rfl
    all_goals
      go_enter Tryd.func142, Tryd.ntmps142
      go_wp2_with fail
      go_ret
      exact ⟨ret_bool HU.out.symm, rfl⟩
  · have hu : uriN b = decide ((97 ≤ b ∧ b ≤ 122) ∨ (65 ≤ b ∧ b ≤ 90) ∨ (48 ≤ b ∧ b ≤ 57) ∨ b = 45) := by
      unfold uriN; rw [Bool.eq_iff_iff, decide_eq_true_eq, decide_eq_true_eq]
      exact ⟨fun hh => hh.elim (fun h2 => absurd h2 h) id, .inr⟩
    rw [← hu] at hW
    clear hu
    have e35 : ((b : Int) == 35) = false := by rw [beq_eq_false_iff_ne]; omega
    have e59 : ((b : Int) == 59) = false := by rw [beq_eq_false_iff_ne]; omega
    have e47 : ((b : Int) == 47) = false := by rw [beq_eq_false_iff_ne]; omega
    have e63 : ((b : Int) == 63) = false := by rw [beq_eq_false_iff_ne]; omega
    have e58 : ((b : Int) == 58) = false := by rw [beq_eq_false_iff_ne]; omega
    have e64 : ((b : Int) == 64) = false := by rw [beq_eq_false_iff_ne]; omega
    have e38 : ((b : Int) == 38) = false := by rw [beq_eq_false_iff_ne]; omega
    have e61 : ((b : Int) == 61) = false := by rw [beq_eq_false_iff_ne]; omega
    have e43 : ((b : Int) == 43) = false := by rw [beq_eq_false_iff_ne]; omega
    have e36 : ((b : Int) == 36) = false := by rw [beq_eq_false_iff_ne]; omega
    have e95 : ((b : Int) == 95) = false := by rw [beq_eq_false_iff_ne]; omega
    have e46 : ((b : Int) == 46) = false := by rw [beq_eq_false_iff_ne]; omega
    have e33 : ((b : Int) == 33) = false := by rw [beq_eq_false_iff_ne]; omega
    have e126 : ((b : Int) == 126) = false := by rw [beq_eq_false_iff_ne]; omega
    have e42 : ((b : Int) == 42) = false := by rw [beq_eq_false_iff_ne]; omega
    have e39 : ((b : Int) == 39) = false := by rw [beq_eq_false_iff_ne]; omega
    have e40 : ((b : Int) == 40) = false := by rw [beq_eq_false_iff_ne]; omega
    have e41 : ((b : Int) == 41) = false := by rw [beq_eq_false_iff_ne]; omega
    have e37 : ((b : Int) == 37) = false := by rw [beq_eq_false_iff_ne]; omega
    have e44 : ((b : Int) == 44) = false := by rw [beq_eq_false_iff_ne]; omega
    have e91 : ((b : Int) == 91) = false := by rw [beq_eq_false_iff_ne]; omega
    have e93 : ((b : Int) == 93) = false := by rw [beq_eq_false_iff_ne]; omega
    clear h
    go_enter Tryd.func142, Tryd.ntmps142
    go_wp2_with fail
    refine (hW _).mono ?_
    rintro e w1 ⟨rfl, rfl⟩
    go_wp2_with fail
    go_ret
    exact ⟨rfl, rfl⟩
set_option maxRecDepth 100000 in
set_option maxHeartbeats 1000000 in
theorem percent_c (m : List UInt8) (w : World) (hs : m.length ≤ 1073741824) : Calls Tryd.prog 143 #[.string ⟨m.toArray⟩] w fun e w' => e = .returned (.bool (pctN m)) ∧ w = w' := by
  unfold pctN
  by_cases h3 : 3 ≤ m.length
  · have h1 := fun w => hhex_c (byt m 1) w (byt_lt m 1)
    have h2 := fun w => hhex_c (byt m 2) w (byt_lt m 2)
    rw [decide_eq_true h3, Bool.true_and]
    generalize hexN (byt m 1) = x at *
    generalize hexN (byt m 2) = y at *
    go_enter Tryd.func143, Tryd.ntmps143
    go_wp2_with fail
    refine (h1 _).mono ?_
    rintro e w1 ⟨rfl, rfl⟩
    cases x with
    | true =>
      go_wp2_with fail
      refine (h2 _).mono ?_
      rintro e w1 ⟨rfl, rfl⟩
      go_wp2_with fail
      go_ret
      exact ⟨rfl, rfl⟩
    | false =>
      go_wp2_with fail
      go_ret
      exact ⟨rfl, rfl⟩
  · rw [decide_eq_false h3, Bool.false_and, Bool.false_and]
    go_enter Tryd.func143, Tryd.ntmps143
    go_wp2_with fail
    go_ret
    exact ⟨rfl, rfl⟩
end Go.Proofs.YtjnmgmepolpcdaaDoor
