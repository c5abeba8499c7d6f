/- The walks of bosketlaw0's small functions: Low, Scalar, Runes. -/
import Derived.Test.YtipcfdebbjfecaaDoorBase
import Derived.Deep.QuietTactic
import Derived.BigQuiet
namespace Go.Proofs.YtipcfdebbjfecaaDoor
open Go.RowKit U

/-- bosketlaw0.Low: a number below n, of any int. -/
def low (x : Int) (n : Nat) : Nat := (x % 18446744073709551616 % (n : Int)).toNat
theorem low_lt (x : Int) (n : Nat) (h : 0 < n) : low x n < n := by
  unfold low
  have h1 := Int.emod_nonneg (x % 18446744073709551616) (show (n : Int) ≠ 0 by omega)
  have h2 := Int.emod_lt_of_pos (x % 18446744073709551616) (show (0 : Int) < n by omega)
  omega
theorem low_cast (x : Int) (n : Nat) (h : 0 < n) : (low x n : Int) = x % 18446744073709551616 % (n : Int) := by
  unfold low
  have h1 := Int.emod_nonneg (x % 18446744073709551616) (show (n : Int) ≠ 0 by omega)
  omega

set_option maxHeartbeats 400000 in
theorem low_c (x : Int) (n : Nat) (w : World) (h0 : 0 < n) (h1 : n ≤ 2147483647) :
    Calls Tryd.prog 28 #[.int .i64 x, .int .i64 n] w fun e w' => e = .returned (.int .i64 (low x n)) ∧ w = w' := by
  have hl := low_cast x n h0
  have HL := Lib.hid hl
  clear hl
  go_enter Tryd.func28, Tryd.ntmps28
  go_wp2
  go_ret
  refine ⟨ret_int ?_, rfl⟩
  rw [HL.out]
  have e1 : (IntKind.u64.wrap x).tmod (n : Int) = x % 18446744073709551616 % (n : Int) := by
    rw [show IntKind.u64.wrap x = x % 18446744073709551616 by simp [IntKind.wrap, IntKind.bits, IntKind.signed]]
    exact Int.tmod_eq_emod_of_nonneg (Int.emod_nonneg _ (by decide))
  rw [e1]
  have h2 := Int.emod_nonneg (x % 18446744073709551616) (show (n : Int) ≠ 0 by omega)
  have h3 := Int.emod_lt_of_pos (x % 18446744073709551616) (show (0 : Int) < n by omega)
  exact IntWalk.wrap64_in _ ⟨by omega, by omega⟩

/-- bosketlaw0.Scalar: a code point of any int. -/
def scalarOf (n : Int) : Nat := if 55296 ≤ low n 1114112 ∧ low n 1114112 ≤ 57343 then low n 1114112 - 55296 else low n 1114112

set_option maxHeartbeats 400000 in
theorem scalar_c (x : Int) (w : World) :
    Calls Tryd.prog 27 #[.int .i64 x] w fun e w' => e = .returned (.int .i32 (scalarOf x)) ∧ w = w' := by
  have hl := low_lt x 1114112 (by omega)
  have hso : scalarOf x = if 55296 ≤ low x 1114112 ∧ low x 1114112 ≤ 57343 then low x 1114112 - 55296 else low x 1114112 := rfl
  generalize hL : low x 1114112 = m at *
  have HL := Lib.hid hL
  have HS := Lib.hid hso
  clear hL hso
  by_cases h1 : 55296 ≤ m
  · by_cases h2 : m ≤ 57343
    · go_enter Tryd.func27, Tryd.ntmps27
      go_wp2_with (go_at_call 28; refine (low_c x 1114112 _ (by omega) (by omega)).mono ?_; rw [HL.out]; rintro e w1 ⟨rfl, rfl⟩)
      go_ret
      refine ⟨ret_int ?_, rfl⟩
      rw [HS.out, if_pos ⟨h1, h2⟩]; omega
    · go_enter Tryd.func27, Tryd.ntmps27
      go_wp2_with (go_at_call 28; refine (low_c x 1114112 _ (by omega) (by omega)).mono ?_; rw [HL.out]; rintro e w1 ⟨rfl, rfl⟩)
      go_ret
      refine ⟨ret_int ?_, rfl⟩
      rw [HS.out, if_neg (by omega)]
  · go_enter Tryd.func27, Tryd.ntmps27
    go_wp2_with (go_at_call 28; refine (low_c x 1114112 _ (by omega) (by omega)).mono ?_; rw [HL.out]; rintro e w1 ⟨rfl, rfl⟩)
    go_ret
    refine ⟨ret_int ?_, rfl⟩
    rw [HS.out, if_neg (by omega)]

set_option maxRecDepth 100000 in
set_option maxHeartbeats 1000000 in
theorem eqRunes_c (xs ys : List Int) (va vb : Value) (w : World) (ha : Sl w va (i32s xs)) (hb : Sl w vb (i32s ys)) (hs : xs.length ≤ 2147483647) (ht : ys.length ≤ 2147483647) :
    Calls Tryd.prog 18 #[va, vb] w fun e w' => e = .returned (.bool (decide (xs = ys))) ∧ Below w.heap.size w w' := by
  obtain ⟨a, c, rfl, hca⟩ := Sl.ints ha
  obtain ⟨b, d, rfl, hcb⟩ := Sl.ints hb
  have HA := Lib.hid hca
  have HB := Lib.hid hcb
  clear ha hb hca hcb
  by_cases hl : xs.length = ys.length
  · have HLn := Lib.hid hl
    have hl2 : ((xs.length : Int) != (ys.length : Int)) = false := by simp; omega
    clear hl
    go_enter Tryd.func18, Tryd.ntmps18
    go_wp2
    go_loopw [5] (fun i wr => ∃ k : Nat, k ≤ xs.length ∧ i = .int .i64 k ∧ Below w.heap.size w wr ∧ Hid (xs.take k = ys.take k)) (fun i _ => xs.length - (intOf i).toNat)
    case atStart => exact ⟨0, Nat.zero_le _, rfl, Below.refl _ _, Lib.hid rfl⟩
    case round =>
      obtain ⟨k, hk, rfl, hbw, hE⟩ := hrel
      by_cases hlt : k < xs.length
      · have hlt2 : k < ys.length := by have := HLn.out; omega
        obtain ⟨b1, o1, rfl, hb1, hc1⟩ := HA.out k hlt
        obtain ⟨b2, o2, rfl, hb2, hc2⟩ := HB.out k hlt2
        have hd1 : wr.cell? ⟨b1, o1 + k, none⟩ = some (.int .i32 (xs[k]'hlt)) := (hbw.cell (p := ⟨b1, o1 + k, none⟩) hb1).trans hc1
        have hd2 : wr.cell? ⟨b2, o2 + k, none⟩ = some (.int .i32 (ys[k]'hlt2)) := (hbw.cell (p := ⟨b2, o2 + k, none⟩) hb2).trans hc2
        obtain ⟨x, hx⟩ : ∃ x, xs[k]'hlt = x := ⟨_, rfl⟩
        obtain ⟨y, hy⟩ : ∃ y, ys[k]'hlt2 = y := ⟨_, rfl⟩
        rw [hx] at hd1
        rw [hy] at hd2
        have HX := Lib.hid hx
        have HY := Lib.hid hy
        clear hx hy hc1 hc2 HA HB
        by_cases hxy : x = y
        · subst hxy
          go_wp2
          go_quiet (fail)
          go_wp2
          refine ⟨⟨k + 1, by omega, by go_num, below_drewN hbw _, Lib.hid ?_⟩, ?_⟩
          · rw [List.take_succ_eq_append_getElem hlt, List.take_succ_eq_append_getElem hlt2, hE.out, HX.out, HY.out]
          · simp [intOf]; omega
        · have hb' : (x != y) = true := by simpa using hxy
          have HN := Lib.hid hxy
          clear hxy
          go_wp2
          go_quiet (fail)
          go_wp2
          go_ret
          refine ⟨ret_bool ?_, below_drewN hbw _⟩
          have hne : xs ≠ ys := by
            rintro rfl
            exact HN.out (HX.out.symm.trans HY.out)
          simp [hne]
      · go_wp2
        go_ret
        refine ⟨ret_bool ?_, hbw⟩
        have : xs = ys := by
          have := hE.out
          rwa [List.take_of_length_le (by omega), List.take_of_length_le (by have := HLn.out; omega)] at this
        simp [this]
  · have hl2 : ((xs.length : Int) != (ys.length : Int)) = true := by simp; omega
    have hne : xs ≠ ys := fun h => hl (by rw [h])
    have HN := Lib.hid hne
    clear hl hne
    go_enter Tryd.func18, Tryd.ntmps18
    go_wp2
    go_ret
    refine ⟨ret_bool ?_, Below.refl _ _⟩
    simp [HN.out]
end Go.Proofs.YtipcfdebbjfecaaDoor
