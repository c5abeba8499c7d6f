/- The walk of bosketlaw0.Scalar. -/
import Derived.Test.YtjfgcbikdibjeaaGreatDoorWLow
namespace Go.Proofs.YtjfgcbikdibjeaaGreatDoor
open Go.RowKit U

/-- bosketlaw0.Scalar: a code point of any int. -/
def scalarOf (n : Int) : Nat := if 55296 ≤ low n 1114112 ∧ low n 1114112 ≤ 57343 then low n 1114112 - 55296 else low n 1114112

set_option maxHeartbeats 400000 in
theorem scalar_c (x : Int) (w : World) :
    Calls Tryz.prog 30 #[.int .i64 x] w fun e w' => e = .returned (.int .i32 (scalarOf x)) ∧ w = w' := by
  have hl := low_lt x 1114112 (by omega)
  have hso : scalarOf x = if 55296 ≤ low x 1114112 ∧ low x 1114112 ≤ 57343 then low x 1114112 - 55296 else low x 1114112 := rfl
  generalize hL : low x 1114112 = m at *
  have HL := Lib.hid hL
  have HS := Lib.hid hso
  clear hL hso
  by_cases h1 : 55296 ≤ m
  · by_cases h2 : m ≤ 57343
    · go_enter Tryz.func30, Tryz.ntmps30
      go_wp2_with (go_at_call 24; refine (low_c x 1114112 _ (by omega) (by omega)).mono ?_; rw [HL.out]; rintro e w1 ⟨rfl, rfl⟩)
      go_ret
      refine ⟨ret_int ?_, rfl⟩
      rw [HS.out, if_pos ⟨h1, h2⟩]; omega
    · go_enter Tryz.func30, Tryz.ntmps30
      go_wp2_with (go_at_call 24; refine (low_c x 1114112 _ (by omega) (by omega)).mono ?_; rw [HL.out]; rintro e w1 ⟨rfl, rfl⟩)
      go_ret
      refine ⟨ret_int ?_, rfl⟩
      rw [HS.out, if_neg (by omega)]
  · go_enter Tryz.func30, Tryz.ntmps30
    go_wp2_with (go_at_call 24; refine (low_c x 1114112 _ (by omega) (by omega)).mono ?_; rw [HL.out]; rintro e w1 ⟨rfl, rfl⟩)
    go_ret
    refine ⟨ret_int ?_, rfl⟩
    rw [HS.out, if_neg (by omega)]
end Go.Proofs.YtjfgcbikdibjeaaGreatDoor
