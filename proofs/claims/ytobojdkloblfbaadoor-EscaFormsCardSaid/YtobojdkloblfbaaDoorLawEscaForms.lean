/- The walk of bosketlaw5.EscaForms. -/
import Derived.Test.YtobojdkloblfbaaDoorLawEsca0
import Derived.Test.YtobojdkloblfbaaDoorLong
namespace Go.Proofs.YtobojdkloblfbaaDoor
open Go.RowKit U Go.Proofs

theorem two_len (n : Int) (a b : List UInt8) (h : long n [a, b] = false) : ¬ n ≤ a.length ∧ ¬ n - a.length - 1 ≤ b.length := by
  constructor
  · intro h1; simp [long, h1] at h
  · intro h1
    by_cases h2 : n ≤ a.length
    · simp [long, h2] at h
    · simp [long, h2, h1] at h
def digsL : List UInt8 := [48, 49, 50, 51, 52, 53, 54, 55, 56, 57, 97, 98, 99, 100, 101, 102, 65, 66, 67, 68, 69, 70, 103, 32, 48, 49, 100, 56, 68, 48, 102, 49]
theorem low_quiet (x m : Int) (w : World) (h0 : 0 < m) (h1 : m ≤ 2147483647) :
    Calls Tryd.prog 19 #[.int .i64 x, .int .i64 m] w fun e w' => e = .returned (.int .i64 (low x m.toNat)) ∧ w' = w := by
  obtain ⟨n, rfl⟩ := Int.eq_ofNat_of_zero_le (show 0 ≤ m by omega)
  refine (low_c x n w (by omega) (by omega)).mono ?_
  rintro e w' ⟨rfl, rfl⟩
  exact ⟨rfl, rfl⟩

set_option maxRecDepth 100000 in
set_option maxHeartbeats 8000000 in
theorem escaForms_c (c : Int) (xs : List Int) (v : Value) (a b : List UInt8) (w : World) (hE : Env w) (hT : Tz w) (hc0 : 0 ≤ c) (hc1 : c ≤ 255) (hsl : Sl w v (xs.map fun x : Int => Value.int .i64 x)) (_hwf : ∀ x ∈ xs, (Lit.int .i64 x).wf = true) (_hs : xs.length ≤ 9223372036854775807)
    (ha : a.length ≤ 9223372036854775807) (hb : b.length ≤ 9223372036854775807) :
    Calls Tryd.prog 4 #[.int .u8 c, v, .string ⟨a.toArray⟩, .string ⟨b.toArray⟩] w fun e w' => e = .returned (.bool true) ∧ Below w.heap.size w w' := by
  have hA := At.refl hE
  obtain ⟨ad, cap, rfl, hcells⟩ := Sl.ints (k := .i64) hsl
  have HC := Lib.hid hcells
  clear hcells hsl
  have hsl := sl_new (w := w) (e := 9) (strs [a, b]) (by simp [strs])
  have hA1 := hA.alloc (.cells (strs [a, b]).toArray 9)
  have hLg := fun (n : Int) (h0 : 0 ≤ n) (h1 : n ≤ 2147483647) => long_c n [a, b] _ _ hsl h0 h1 (by simp) (by intro x hx; simp at hx; rcases hx with rfl | rfl <;> omega)
  by_cases hlg : long 40 [a, b] = true
  · have HL := Lib.hid hlg
    clear hlg
    go_enter Tryd.func4, Tryd.ntmps4
    go_wp2_with fail
    refine (hLg 40 (by omega) (by omega)).mono ?_
    rw [HL.out]
    rintro e w1 ⟨rfl, rfl⟩
    go_wp2_with fail
    refine (awake5_c _ hA1.env (hT.below hA1.below)).mono ?_
    rintro e w1 ⟨rfl, hb⟩
    have hA := hA1.step hb
    clear hb
    go_wp2_with fail
    go_ret
    exact ⟨rfl, hA.below⟩
  have hlg : long 40 [a, b] = false := Bool.eq_false_iff.2 hlg
  obtain ⟨hla, hlb⟩ := two_len 40 a b hlg
  have HL := Lib.hid hlg
  clear hlg
  by_cases hx8 : 8 < xs.length
  · go_enter Tryd.func4, Tryd.ntmps4
    go_wp2_with fail
    refine (hLg 40 (by omega) (by omega)).mono ?_
    rw [HL.out]
    rintro e w1 ⟨rfl, rfl⟩
    go_wp2_with fail
    refine (awake5_c _ hA1.env (hT.below hA1.below)).mono ?_
    rintro e w1 ⟨rfl, hb⟩
    have hA := hA1.step hb
    clear hb
    go_wp2_with fail
    go_ret
    exact ⟨rfl, hA.below⟩
  go_enter Tryd.func4, Tryd.ntmps4
  go_wp2_with fail
  refine (hLg 40 (by omega) (by omega)).mono ?_
  rw [HL.out]
  rintro e w1 ⟨rfl, rfl⟩
  have hA := hA1
  clear hA1 hLg hsl HL
  generalize w.alloc (.cells (strs [a, b]).toArray 9) = w1 at *
  go_wp2_with fail
  go_loopw [0, 9] (fun x i wr => ∃ (d : Int) (k : Nat), 0 ≤ d ∧ d ≤ 255 ∧ x = .int .u8 d ∧ k ≤ 2 ∧ i = .int .i64 k ∧ At w wr) (fun _ i _ => 2 - (intOf i).toNat)
  case atStart => exact ⟨c, 0, hc0, hc1, rfl, by omega, rfl, hA⟩
  case round =>
    obtain ⟨d, k, hd0, hd1, rfl, hk, rfl, hA⟩ := hrel
    by_cases hlt : k < 2
    · have hcv := run_str1 (P := Tryd.prog) wr 33 9 5 d hd0 (by omega) Tryd.underlying33 Tryd.underlying5 Tryd.underlying9
      have hA := hA.alloc (.cells #[.int .u8 d] 5)
      generalize hWW : wr.alloc (.cells #[.int .u8 d] 5) = W at *
      go_wp2_with fail
      go_loopw [10, 11] (fun s i wx => ∃ (j : Nat) (t : List UInt8), j ≤ xs.length ∧ s = .string ⟨t.toArray⟩ ∧ t.length ≤ a.length + 2 + j ∧ i = .int .i64 j ∧ At w wx) (fun _ i _ => xs.length - (intOf i).toNat)
      case atStart => exact ⟨0, _, Nat.zero_le _, rfl, by simp, rfl, hA⟩
      case round =>
        clear hA
        obtain ⟨j, t, hj, rfl, htl, rfl, hA⟩ := hrel
        by_cases hlt2 : j < xs.length
        · obtain ⟨b0, off, rfl, hb0, hck0⟩ := HC.out j hlt2
          have hck := (hA.below.cell (p := ⟨b0, off + j, none⟩) hb0).trans hck0
          generalize hX : (xs[j]'hlt2) = x at *
          clear hX hck0
          have hl := low_lt x 32 (by omega)
          go_wp2_with fail
          go_quiet ((go_at_call 19; exact Calls.quiet_of_same (low_quiet x _ _ (by omega) (by omega))))
          have hA := hA.drewN nq
          go_wp2_with fail
          exact ⟨⟨j + 1, _, by omega, rfl, by simp; omega, by go_num, hA⟩, by simp [intOf]; omega⟩
        · have hs2 : (t ++ b).length ≤ 200 := by simp; omega
          have h1 := fun w => escRead_c (t ++ b) a.length w (by omega) (by omega) (by omega)
          have h2 := fun w => escape_c (t ++ b) a.length w (by omega) (by omega) (by omega)
          generalize escM (t ++ b) a.length = R at *
          obtain ⟨r1, r2, r3⟩ := R
          go_wp2_with fail
          refine (h1 _).mono ?_
          rintro e w2 ⟨rfl, rfl⟩
          go_wp2_with fail
          refine (h2 _).mono ?_
          rintro e w2 ⟨rfl, n, rfl⟩
          have hA := hA.drewN n
          clear h1 h2
          go_wp2_with fail
          have hbl := byt_lt [120, 117, 85, 48, 97, 98, 116, 110, 118, 102, 114, 101] (d % 12).toNat
          exact ⟨⟨_, k + 1, by omega, by omega, rfl, by omega, by go_num, hA⟩, by simp [intOf]; omega⟩
    · obtain rfl : k = 2 := by omega
      go_wp2_with fail
      refine (awake5_c _ hA.env (hT.below hA.below)).mono ?_
      rintro e w3 ⟨rfl, hb⟩
      have hA := hA.step hb
      clear hb
      go_wp2_with fail
      go_ret
      exact ⟨rfl, hA.below⟩
end Go.Proofs.YtobojdkloblfbaaDoor
