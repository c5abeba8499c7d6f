/- The walks of bosketref1.Scalar, Bytes (for a seat without Text). -/
import Derived.Test.YtjfgcbikdibjeaaGreatDoorBase
namespace Go.Proofs.YtjfgcbikdibjeaaGreatDoor
open Go.RowKit U

def scal (r : Int) : Bool := decide (0 ≤ r) && decide (r ≤ 1114111) && (decide (r < 55296) || decide (57343 < r))

set_option maxHeartbeats 400000 in
theorem refScalar_c (r : Int) (w : World) :
    Calls Tryz.prog 137 #[.int .i32 r] w fun e w' => e = .returned (.bool (scal r)) ∧ w = w' := by
  have HS : Hid (scal r = (decide (0 ≤ r) && decide (r ≤ 1114111) && (decide (r < 55296) || decide (57343 < r)))) := Lib.hid rfl
  go_enter Tryz.func137, Tryz.ntmps137
  go_wp2
  all_goals (go_ret; refine ⟨ret_bool ?_, rfl⟩; rw [HS.out])
  all_goals simp [*]
  all_goals omega

set_option maxRecDepth 100000 in
set_option maxHeartbeats 1000000 in
theorem refBytes_1 (r : Int) (w : World) (h0 : 0 ≤ r) (h1 : r < 128) :
    Calls Tryz.prog 139 #[.int .i32 r] w fun e w' => e = .returned (.string ⟨(Lib.encodeRune r).toArray⟩) ∧ Below w.heap.size w w' := by
  have hs : scal r = true := by simp [scal]; omega
  have henc := show Lib.encodeRune r = [r.toNat.toUInt8] from by unfold Lib.encodeRune; rw [Lib.encodeRuneZ_one h0 (by omega)]; rfl
  have HS := Lib.hid hs
  have ENC := Lib.hid henc
  clear hs henc
  have hcv := fun (W : World) => run_str1 (P := Tryz.prog) W 76 9 5 (r) (by omega) (by omega) Tryz.underlying76 Tryz.underlying5 Tryz.underlying9
  go_enter Tryz.func139, Tryz.ntmps139
  go_wp2_with (go_at_call 137; refine (refScalar_c r _).mono ?_; rintro e w' ⟨rfl, rfl⟩; rw [HS.out])
  go_ret
  exact ⟨ret_str ENC.out.symm, (Below.refl _ _).alloc (Nat.le_refl _) _⟩

set_option maxRecDepth 100000 in
set_option maxHeartbeats 1000000 in
theorem refBytes_2 (r : Int) (w : World) (h0 : 128 ≤ r) (h1 : r < 2048) :
    Calls Tryz.prog 139 #[.int .i32 r] w fun e w' => e = .returned (.string ⟨(Lib.encodeRune r).toArray⟩) ∧ Below w.heap.size w w' := by
  have hs : scal r = true := by simp [scal]; omega
  have henc := show Lib.encodeRune r = [(192 + r / 64).toNat.toUInt8, (128 + r % 64).toNat.toUInt8] from by unfold Lib.encodeRune; rw [Lib.encodeRuneZ_two h0 (by omega)]; rfl
  have HS := Lib.hid hs
  have ENC := Lib.hid henc
  clear hs henc
  have a1 : bits .and .i32 (r) 63 = (r) % 64 := bits_mask .i32 31 (by decide) wraps_i32 6 (by decide) _ (by omega) (by omega)
  have o1 : bits .or .i32 192 (r / 64) = 192 + (r / 64) := bits_join .i32 31 (by decide) wraps_i32 5 192 _ (by omega) (by omega) (by omega) (by omega) (by omega) (by omega)
  have o2 : bits .or .i32 128 (r % 64) = 128 + (r % 64) := bits_join .i32 31 (by decide) wraps_i32 6 128 _ (by omega) (by omega) (by omega) (by omega) (by omega) (by omega)
  have hcv := fun (W : World) => run_str2 (P := Tryz.prog) W 76 9 5 (192 + r / 64) (128 + r % 64) (by omega) (by omega) (by omega) (by omega) Tryz.underlying76 Tryz.underlying5 Tryz.underlying9
  go_enter Tryz.func139, Tryz.ntmps139
  go_wp2_with (go_at_call 137; refine (refScalar_c r _).mono ?_; rintro e w' ⟨rfl, rfl⟩; rw [HS.out])
  go_ret
  exact ⟨ret_str ENC.out.symm, (Below.refl _ _).alloc (Nat.le_refl _) _⟩

set_option maxRecDepth 100000 in
set_option maxHeartbeats 1000000 in
theorem refBytes_3 (r : Int) (w : World) (h0 : 2048 ≤ r) (h1 : r < 65536) (h2 : r < 55296 ∨ 57343 < r) :
    Calls Tryz.prog 139 #[.int .i32 r] w fun e w' => e = .returned (.string ⟨(Lib.encodeRune r).toArray⟩) ∧ Below w.heap.size w w' := by
  have hs : scal r = true := by simp [scal]; omega
  have henc := show Lib.encodeRune r = [(224 + r / 4096).toNat.toUInt8, (128 + r / 64 % 64).toNat.toUInt8, (128 + r % 64).toNat.toUInt8] from by unfold Lib.encodeRune; rw [Lib.encodeRuneZ_three (by omega)]; rfl
  have HS := Lib.hid hs
  have ENC := Lib.hid henc
  clear hs henc
  have a1 : bits .and .i32 (r) 63 = (r) % 64 := bits_mask .i32 31 (by decide) wraps_i32 6 (by decide) _ (by omega) (by omega)
  have a2 : bits .and .i32 (r / 64) 63 = (r / 64) % 64 := bits_mask .i32 31 (by decide) wraps_i32 6 (by decide) _ (by omega) (by omega)
  have o1 : bits .or .i32 224 (r / 4096) = 224 + (r / 4096) := bits_join .i32 31 (by decide) wraps_i32 4 224 _ (by omega) (by omega) (by omega) (by omega) (by omega) (by omega)
  have o2 : bits .or .i32 128 (r / 64 % 64) = 128 + (r / 64 % 64) := bits_join .i32 31 (by decide) wraps_i32 6 128 _ (by omega) (by omega) (by omega) (by omega) (by omega) (by omega)
  have o3 : bits .or .i32 128 (r % 64) = 128 + (r % 64) := bits_join .i32 31 (by decide) wraps_i32 6 128 _ (by omega) (by omega) (by omega) (by omega) (by omega) (by omega)
  have hcv := fun (W : World) => run_str3 (P := Tryz.prog) W 76 9 5 (224 + r / 4096) (128 + r / 64 % 64) (128 + r % 64) (by omega) (by omega) (by omega) (by omega) (by omega) (by omega) Tryz.underlying76 Tryz.underlying5 Tryz.underlying9
  go_enter Tryz.func139, Tryz.ntmps139
  go_wp2_with (go_at_call 137; refine (refScalar_c r _).mono ?_; rintro e w' ⟨rfl, rfl⟩; rw [HS.out])
  go_ret
  exact ⟨ret_str ENC.out.symm, (Below.refl _ _).alloc (Nat.le_refl _) _⟩

set_option maxRecDepth 100000 in
set_option maxHeartbeats 1000000 in
theorem refBytes_4 (r : Int) (w : World) (h0 : 65536 ≤ r) (h1 : r ≤ 1114111) :
    Calls Tryz.prog 139 #[.int .i32 r] w fun e w' => e = .returned (.string ⟨(Lib.encodeRune r).toArray⟩) ∧ Below w.heap.size w w' := by
  have hs : scal r = true := by simp [scal]; omega
  have henc := show Lib.encodeRune r = [(240 + r / 262144).toNat.toUInt8, (128 + r / 4096 % 64).toNat.toUInt8, (128 + r / 64 % 64).toNat.toUInt8, (128 + r % 64).toNat.toUInt8] from by unfold Lib.encodeRune; rw [Lib.encodeRuneZ_four h0 h1]; rfl
  have HS := Lib.hid hs
  have ENC := Lib.hid henc
  clear hs henc
  have a1 : bits .and .i32 (r) 63 = (r) % 64 := bits_mask .i32 31 (by decide) wraps_i32 6 (by decide) _ (by omega) (by omega)
  have a2 : bits .and .i32 (r / 64) 63 = (r / 64) % 64 := bits_mask .i32 31 (by decide) wraps_i32 6 (by decide) _ (by omega) (by omega)
  have a3 : bits .and .i32 (r / 4096) 63 = (r / 4096) % 64 := bits_mask .i32 31 (by decide) wraps_i32 6 (by decide) _ (by omega) (by omega)
  have o1 : bits .or .i32 240 (r / 262144) = 240 + (r / 262144) := bits_join .i32 31 (by decide) wraps_i32 3 240 _ (by omega) (by omega) (by omega) (by omega) (by omega) (by omega)
  have o2 : bits .or .i32 128 (r / 4096 % 64) = 128 + (r / 4096 % 64) := bits_join .i32 31 (by decide) wraps_i32 6 128 _ (by omega) (by omega) (by omega) (by omega) (by omega) (by omega)
  have o3 : bits .or .i32 128 (r / 64 % 64) = 128 + (r / 64 % 64) := bits_join .i32 31 (by decide) wraps_i32 6 128 _ (by omega) (by omega) (by omega) (by omega) (by omega) (by omega)
  have o4 : bits .or .i32 128 (r % 64) = 128 + (r % 64) := bits_join .i32 31 (by decide) wraps_i32 6 128 _ (by omega) (by omega) (by omega) (by omega) (by omega) (by omega)
  have hcv := fun (W : World) => run_str4 (P := Tryz.prog) W 76 9 5 (240 + r / 262144) (128 + r / 4096 % 64) (128 + r / 64 % 64) (128 + r % 64) (by omega) (by omega) (by omega) (by omega) (by omega) (by omega) (by omega) (by omega) Tryz.underlying76 Tryz.underlying5 Tryz.underlying9
  go_enter Tryz.func139, Tryz.ntmps139
  go_wp2_with (go_at_call 137; refine (refScalar_c r _).mono ?_; rintro e w' ⟨rfl, rfl⟩; rw [HS.out])
  go_ret
  exact ⟨ret_str ENC.out.symm, (Below.refl _ _).alloc (Nat.le_refl _) _⟩

set_option maxRecDepth 100000 in
set_option maxHeartbeats 1000000 in
theorem refBytes_bad (r : Int) (w : World) (h0 : r < 0 ∨ (55296 ≤ r ∧ r ≤ 57343) ∨ 1114111 < r) :
    Calls Tryz.prog 139 #[.int .i32 r] w fun e w' => e = .returned (.string ⟨(Lib.encodeRune r).toArray⟩) ∧ Below w.heap.size w w' := by
  have hs : scal r = false := by simp [scal]; omega
  have henc := show Lib.encodeRune r = [239, 191, 189] from by unfold Lib.encodeRune; rw [Lib.encodeRuneZ_bad h0]; rfl
  have HS := Lib.hid hs
  have ENC := Lib.hid henc
  clear hs henc
  go_enter Tryz.func139, Tryz.ntmps139
  go_wp2_with (go_at_call 137; refine (refScalar_c r _).mono ?_; rintro e w' ⟨rfl, rfl⟩; rw [HS.out])
  go_ret
  exact ⟨ret_str ENC.out.symm, Below.refl _ _⟩

/-- bosketref1.Bytes: a code point's bytes. -/
theorem refBytes_c (r : Int) (w : World) :
    Calls Tryz.prog 139 #[.int .i32 r] w fun e w' => e = .returned (.string ⟨(Lib.encodeRune r).toArray⟩) ∧ Below w.heap.size w w' := by
  by_cases hb : r < 0 ∨ (55296 ≤ r ∧ r ≤ 57343) ∨ 1114111 < r
  · exact refBytes_bad r w hb
  by_cases h1 : r < 128
  · exact refBytes_1 r w (by omega) h1
  by_cases h2 : r < 2048
  · exact refBytes_2 r w (by omega) h2
  by_cases h3 : r < 65536
  · exact refBytes_3 r w (by omega) h3 (by omega)
  · exact refBytes_4 r w (by omega) (by omega)
end Go.Proofs.YtjfgcbikdibjeaaGreatDoor
