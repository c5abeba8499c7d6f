/- The walks of bosketref1.Scalar, Bytes, Text. -/
import Derived.Test.YtipcfdebbjfecaaDoorBase
namespace Go.Proofs.YtipcfdebbjfecaaDoor
open Go.RowKit U

def scal (r : Int) : Bool := decide (0 ≤ r) && decide (r ≤ 1114111) && (decide (r < 55296) || decide (57343 < r))

set_option maxHeartbeats 400000 in
theorem refScalar_c (r : Int) (w : World) :
    Calls Tryd.prog 24 #[.int .i32 r] w fun e w' => e = .returned (.bool (scal r)) ∧ w = w' := by
  have HS : Hid (scal r = (decide (0 ≤ r) && decide (r ≤ 1114111) && (decide (r < 55296) || decide (57343 < r)))) := Lib.hid rfl
  go_enter Tryd.func24, Tryd.ntmps24
  go_wp2
  all_goals (go_ret; refine ⟨ret_bool ?_, rfl⟩; rw [HS.out])
  all_goals simp [*]
  all_goals omega

set_option maxRecDepth 100000 in
set_option maxHeartbeats 1000000 in
theorem refBytes_1 (r : Int) (w : World) (h0 : 0 ≤ r) (h1 : r < 128) :
    Calls Tryd.prog 44 #[.int .i32 r] w fun e w' => e = .returned (.string ⟨(Lib.encodeRune r).toArray⟩) ∧ Below w.heap.size w w' := by
  have hs : scal r = true := by simp [scal]; omega
  have henc := show Lib.encodeRune r = [r.toNat.toUInt8] from by unfold Lib.encodeRune; rw [Lib.encodeRuneZ_one h0 (by omega)]; rfl
  have HS := Lib.hid hs
  have ENC := Lib.hid henc
  clear hs henc
  have hcv := fun (W : World) => run_str1 (P := Tryd.prog) W 41 9 5 (r) (by omega) (by omega) Tryd.underlying41 Tryd.underlying5 Tryd.underlying9
  go_enter Tryd.func44, Tryd.ntmps44
  go_wp2_with (go_at_call 24; refine (refScalar_c r _).mono ?_; rintro e w' ⟨rfl, rfl⟩; rw [HS.out])
  go_ret
  exact ⟨ret_str ENC.out.symm, (Below.refl _ _).alloc (Nat.le_refl _) _⟩

set_option maxRecDepth 100000 in
set_option maxHeartbeats 1000000 in
theorem refBytes_2 (r : Int) (w : World) (h0 : 128 ≤ r) (h1 : r < 2048) :
    Calls Tryd.prog 44 #[.int .i32 r] w fun e w' => e = .returned (.string ⟨(Lib.encodeRune r).toArray⟩) ∧ Below w.heap.size w w' := by
  have hs : scal r = true := by simp [scal]; omega
  have henc := show Lib.encodeRune r = [(192 + r / 64).toNat.toUInt8, (128 + r % 64).toNat.toUInt8] from by unfold Lib.encodeRune; rw [Lib.encodeRuneZ_two h0 (by omega)]; rfl
  have HS := Lib.hid hs
  have ENC := Lib.hid henc
  clear hs henc
  have a1 : bits .and .i32 (r) 63 = (r) % 64 := bits_mask .i32 31 (by decide) wraps_i32 6 (by decide) _ (by omega) (by omega)
  have o1 : bits .or .i32 192 (r / 64) = 192 + (r / 64) := bits_join .i32 31 (by decide) wraps_i32 5 192 _ (by omega) (by omega) (by omega) (by omega) (by omega) (by omega)
  have o2 : bits .or .i32 128 (r % 64) = 128 + (r % 64) := bits_join .i32 31 (by decide) wraps_i32 6 128 _ (by omega) (by omega) (by omega) (by omega) (by omega) (by omega)
  have hcv := fun (W : World) => run_str2 (P := Tryd.prog) W 41 9 5 (192 + r / 64) (128 + r % 64) (by omega) (by omega) (by omega) (by omega) Tryd.underlying41 Tryd.underlying5 Tryd.underlying9
  go_enter Tryd.func44, Tryd.ntmps44
  go_wp2_with (go_at_call 24; refine (refScalar_c r _).mono ?_; rintro e w' ⟨rfl, rfl⟩; rw [HS.out])
  go_ret
  exact ⟨ret_str ENC.out.symm, (Below.refl _ _).alloc (Nat.le_refl _) _⟩

set_option maxRecDepth 100000 in
set_option maxHeartbeats 1000000 in
theorem refBytes_3 (r : Int) (w : World) (h0 : 2048 ≤ r) (h1 : r < 65536) (h2 : r < 55296 ∨ 57343 < r) :
    Calls Tryd.prog 44 #[.int .i32 r] w fun e w' => e = .returned (.string ⟨(Lib.encodeRune r).toArray⟩) ∧ Below w.heap.size w w' := by
  have hs : scal r = true := by simp [scal]; omega
  have henc := show Lib.encodeRune r = [(224 + r / 4096).toNat.toUInt8, (128 + r / 64 % 64).toNat.toUInt8, (128 + r % 64).toNat.toUInt8] from by unfold Lib.encodeRune; rw [Lib.encodeRuneZ_three (by omega)]; rfl
  have HS := Lib.hid hs
  have ENC := Lib.hid henc
  clear hs henc
  have a1 : bits .and .i32 (r) 63 = (r) % 64 := bits_mask .i32 31 (by decide) wraps_i32 6 (by decide) _ (by omega) (by omega)
  have a2 : bits .and .i32 (r / 64) 63 = (r / 64) % 64 := bits_mask .i32 31 (by decide) wraps_i32 6 (by decide) _ (by omega) (by omega)
  have o1 : bits .or .i32 224 (r / 4096) = 224 + (r / 4096) := bits_join .i32 31 (by decide) wraps_i32 4 224 _ (by omega) (by omega) (by omega) (by omega) (by omega) (by omega)
  have o2 : bits .or .i32 128 (r / 64 % 64) = 128 + (r / 64 % 64) := bits_join .i32 31 (by decide) wraps_i32 6 128 _ (by omega) (by omega) (by omega) (by omega) (by omega) (by omega)
  have o3 : bits .or .i32 128 (r % 64) = 128 + (r % 64) := bits_join .i32 31 (by decide) wraps_i32 6 128 _ (by omega) (by omega) (by omega) (by omega) (by omega) (by omega)
  have hcv := fun (W : World) => run_str3 (P := Tryd.prog) W 41 9 5 (224 + r / 4096) (128 + r / 64 % 64) (128 + r % 64) (by omega) (by omega) (by omega) (by omega) (by omega) (by omega) Tryd.underlying41 Tryd.underlying5 Tryd.underlying9
  go_enter Tryd.func44, Tryd.ntmps44
  go_wp2_with (go_at_call 24; refine (refScalar_c r _).mono ?_; rintro e w' ⟨rfl, rfl⟩; rw [HS.out])
  go_ret
  exact ⟨ret_str ENC.out.symm, (Below.refl _ _).alloc (Nat.le_refl _) _⟩

set_option maxRecDepth 100000 in
set_option maxHeartbeats 1000000 in
theorem refBytes_4 (r : Int) (w : World) (h0 : 65536 ≤ r) (h1 : r ≤ 1114111) :
    Calls Tryd.prog 44 #[.int .i32 r] w fun e w' => e = .returned (.string ⟨(Lib.encodeRune r).toArray⟩) ∧ Below w.heap.size w w' := by
  have hs : scal r = true := by simp [scal]; omega
  have henc := show Lib.encodeRune r = [(240 + r / 262144).toNat.toUInt8, (128 + r / 4096 % 64).toNat.toUInt8, (128 + r / 64 % 64).toNat.toUInt8, (128 + r % 64).toNat.toUInt8] from by unfold Lib.encodeRune; rw [Lib.encodeRuneZ_four h0 h1]; rfl
  have HS := Lib.hid hs
  have ENC := Lib.hid henc
  clear hs henc
  have a1 : bits .and .i32 (r) 63 = (r) % 64 := bits_mask .i32 31 (by decide) wraps_i32 6 (by decide) _ (by omega) (by omega)
  have a2 : bits .and .i32 (r / 64) 63 = (r / 64) % 64 := bits_mask .i32 31 (by decide) wraps_i32 6 (by decide) _ (by omega) (by omega)
  have a3 : bits .and .i32 (r / 4096) 63 = (r / 4096) % 64 := bits_mask .i32 31 (by decide) wraps_i32 6 (by decide) _ (by omega) (by omega)
  have o1 : bits .or .i32 240 (r / 262144) = 240 + (r / 262144) := bits_join .i32 31 (by decide) wraps_i32 3 240 _ (by omega) (by omega) (by omega) (by omega) (by omega) (by omega)
  have o2 : bits .or .i32 128 (r / 4096 % 64) = 128 + (r / 4096 % 64) := bits_join .i32 31 (by decide) wraps_i32 6 128 _ (by omega) (by omega) (by omega) (by omega) (by omega) (by omega)
  have o3 : bits .or .i32 128 (r / 64 % 64) = 128 + (r / 64 % 64) := bits_join .i32 31 (by decide) wraps_i32 6 128 _ (by omega) (by omega) (by omega) (by omega) (by omega) (by omega)
  have o4 : bits .or .i32 128 (r % 64) = 128 + (r % 64) := bits_join .i32 31 (by decide) wraps_i32 6 128 _ (by omega) (by omega) (by omega) (by omega) (by omega) (by omega)
  have hcv := fun (W : World) => run_str4 (P := Tryd.prog) W 41 9 5 (240 + r / 262144) (128 + r / 4096 % 64) (128 + r / 64 % 64) (128 + r % 64) (by omega) (by omega) (by omega) (by omega) (by omega) (by omega) (by omega) (by omega) Tryd.underlying41 Tryd.underlying5 Tryd.underlying9
  go_enter Tryd.func44, Tryd.ntmps44
  go_wp2_with (go_at_call 24; refine (refScalar_c r _).mono ?_; rintro e w' ⟨rfl, rfl⟩; rw [HS.out])
  go_ret
  exact ⟨ret_str ENC.out.symm, (Below.refl _ _).alloc (Nat.le_refl _) _⟩

set_option maxRecDepth 100000 in
set_option maxHeartbeats 1000000 in
theorem refBytes_bad (r : Int) (w : World) (h0 : r < 0 ∨ (55296 ≤ r ∧ r ≤ 57343) ∨ 1114111 < r) :
    Calls Tryd.prog 44 #[.int .i32 r] w fun e w' => e = .returned (.string ⟨(Lib.encodeRune r).toArray⟩) ∧ Below w.heap.size w w' := by
  have hs : scal r = false := by simp [scal]; omega
  have henc := show Lib.encodeRune r = [239, 191, 189] from by unfold Lib.encodeRune; rw [Lib.encodeRuneZ_bad h0]; rfl
  have HS := Lib.hid hs
  have ENC := Lib.hid henc
  clear hs henc
  go_enter Tryd.func44, Tryd.ntmps44
  go_wp2_with (go_at_call 24; refine (refScalar_c r _).mono ?_; rintro e w' ⟨rfl, rfl⟩; rw [HS.out])
  go_ret
  exact ⟨ret_str ENC.out.symm, Below.refl _ _⟩

/-- bosketref1.Bytes: a code point's bytes. -/
theorem refBytes_c (r : Int) (w : World) :
    Calls Tryd.prog 44 #[.int .i32 r] w fun e w' => e = .returned (.string ⟨(Lib.encodeRune r).toArray⟩) ∧ Below w.heap.size w w' := by
  by_cases hb : r < 0 ∨ (55296 ≤ r ∧ r ≤ 57343) ∨ 1114111 < r
  · exact refBytes_bad r w hb
  by_cases h1 : r < 128
  · exact refBytes_1 r w (by omega) h1
  by_cases h2 : r < 2048
  · exact refBytes_2 r w (by omega) h2
  by_cases h3 : r < 65536
  · exact refBytes_3 r w (by omega) h3 (by omega)
  · exact refBytes_4 r w (by omega) (by omega)
set_option maxRecDepth 100000 in
set_option maxHeartbeats 1000000 in
theorem refText_c (xs : List Int) (v : Value) (w : World) (hv : Sl w v (i32s xs)) (hs : xs.length ≤ 268435456) :
    Calls Tryd.prog 25 #[v] w fun e w' => e = .returned (.string ⟨(enc xs).toArray⟩) ∧ Below w.heap.size w w' := by
  rcases hv with ⟨hx, hv⟩ | ⟨b, off, c, hne, rfl, hb, hcell⟩
  · obtain rfl : xs = [] := by simpa [i32s] using hx
    obtain ⟨a, c, rfl⟩ : ∃ a c, v = .slice a 0 c := by
      rcases hv with rfl | ⟨_, _, rfl⟩
      · exact ⟨_, _, rfl⟩
      · exact ⟨_, _, rfl⟩
    go_enter Tryd.func25, Tryd.ntmps25
    go_wp2
    go_rounds 1
    go_ret
    exact ⟨rfl, Below.refl _ _⟩
  · rw [i32s_length]
    have HC := Lib.hid hcell
    clear hcell hne
    go_enter Tryd.func25, Tryd.ntmps25
    go_wp2
    go_loopw [3, 4] (fun s i wr => ∃ k : Nat, k ≤ xs.length ∧ i = .int .i64 k ∧ s = .string ⟨(enc (xs.take k)).toArray⟩ ∧ Below w.heap.size w wr) (fun _ i _ => xs.length - (intOf i).toNat)
    case atStart => exact ⟨0, Nat.zero_le _, rfl, rfl, Below.refl _ _⟩
    case round =>
      obtain ⟨k, hk, rfl, rfl, hbw⟩ := hrel
      have hel := enc_le (xs.take k)
      rw [List.length_take_of_le hk] at hel
      by_cases hlt : k < xs.length
      · have hck : wr.cell? ⟨b, off + k, none⟩ = some (.int .i32 (xs[k]'hlt)) := (hbw.cell (p := ⟨b, off + k, none⟩) hb).trans (HC.out k _ (i32s_get hlt))
        have hen := encR_le (xs[k]'hlt)
        have hsn : enc (xs.take (k + 1)) = enc (xs.take k) ++ Lib.encodeRune (xs[k]'hlt) := by
          rw [List.take_succ_eq_append_getElem hlt, enc_snoc]
        have HS := Lib.hid hsn
        clear hsn
        generalize hX : (xs[k]'hlt) = x at *
        clear hX
        generalize hE : enc (xs.take k) = E at *
        clear hE
        go_wp2_with (go_at_call 44; refine (refBytes_c x _).mono ?_; rintro e w' ⟨rfl, hb1⟩)
        refine ⟨⟨k + 1, by omega, by go_num, by rw [HS.out], hbw.trans (hb1.mono hbw.size)⟩, ?_⟩
        simp [intOf]; omega
      · go_wp2
        go_ret
        obtain rfl : k = xs.length := by omega
        exact ⟨ret_str (by rw [List.take_length]), hbw⟩
end Go.Proofs.YtipcfdebbjfecaaDoor
