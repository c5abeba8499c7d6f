/- The walks of bosketlaw0's small functions: Low, Scalar, Runes. -/
import Derived.Test.YtjfgcbikdibjeaaGreatDoorBase
import Derived.Deep.QuietTactic
import Derived.BigQuiet
namespace Go.Proofs.YtjfgcbikdibjeaaGreatDoor
open Go.RowKit U

/-- bosketlaw0.Low: a number below n, of any int. -/
def low (x : Int) (n : Nat) : Nat := (x % 18446744073709551616 % (n : Int)).toNat
theorem low_lt (x : Int) (n : Nat) (h : 0 < n) : low x n < n := by
  unfold low
  have h1 := Int.emod_nonneg (x % 18446744073709551616) (show (n : Int) ≠ 0 by omega)
  have h2 := Int.emod_lt_of_pos (x % 18446744073709551616) (show (0 : Int) < n by omega)
  omega
theorem low_cast (x : Int) (n : Nat) (h : 0 < n) : (low x n : Int) = x % 18446744073709551616 % (n : Int) := by
  unfold low
  have h1 := Int.emod_nonneg (x % 18446744073709551616) (show (n : Int) ≠ 0 by omega)
  omega

set_option maxHeartbeats 400000 in
theorem low_c (x : Int) (n : Nat) (w : World) (h0 : 0 < n) (h1 : n ≤ 2147483647) :
    Calls Tryz.prog 24 #[.int .i64 x, .int .i64 n] w fun e w' => e = .returned (.int .i64 (low x n)) ∧ w = w' := by
  have hl := low_cast x n h0
  have HL := Lib.hid hl
  clear hl
  go_enter Tryz.func24, Tryz.ntmps24
  go_wp2
  go_ret
  refine ⟨ret_int ?_, rfl⟩
  rw [HL.out]
  have e1 : (IntKind.u64.wrap x).tmod (n : Int) = x % 18446744073709551616 % (n : Int) := by
    rw [show IntKind.u64.wrap x = x % 18446744073709551616 by simp [IntKind.wrap, IntKind.bits, IntKind.signed]]
    exact Int.tmod_eq_emod_of_nonneg (Int.emod_nonneg _ (by decide))
  rw [e1]
  have h2 := Int.emod_nonneg (x % 18446744073709551616) (show (n : Int) ≠ 0 by omega)
  have h3 := Int.emod_lt_of_pos (x % 18446744073709551616) (show (0 : Int) < n by omega)
  exact IntWalk.wrap64_in _ ⟨by omega, by omega⟩
end Go.Proofs.YtjfgcbikdibjeaaGreatDoor
