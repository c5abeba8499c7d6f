/- The walk of bosketlaw8.CoreTells. -/
import Derived.Test.YtjnmgmepolpcdaaDoorLawCore0
import Derived.Test.YtjnmgmepolpcdaaDoorWLow
namespace Go.Proofs.YtjnmgmepolpcdaaDoor
open Go.RowKit U Go.Proofs

theorem low_j (x : Int) (n j : Nat) (w : World) (h0 : 0 < n) (h1 : n ≤ 2147483647) (h : low x n = j) :
    Calls Tryd.prog 16 #[.int .i64 x, .int .i64 n] w fun e w' => e = .returned (.int .i64 j) ∧ w' = w := by
  refine (low_c x n w h0 h1).mono ?_
  rw [h]
  rintro e w' ⟨rfl, rfl⟩
  exact ⟨rfl, rfl⟩
set_option maxRecDepth 100000 in
set_option maxHeartbeats 2000000 in
theorem coreTells_c (l : List UInt8) (xs : List Int) (v : Value) (w : World) (hE : Env w) (hs : l.length ≤ 9223372036854775807) (hsl : Sl w v (xs.map fun x : Int => Value.int .i64 x)) (_hwf : ∀ x ∈ xs, (Lit.int .i64 x).wf = true) (_hs : xs.length ≤ 9223372036854775807) :
    Calls Tryd.prog 3 #[.string ⟨l.toArray⟩, v] w fun e w' => e = .returned (.bool true) ∧ Below w.heap.size w w' := by
  have hA := At.refl hE
  obtain ⟨a, c, rfl, hcells⟩ := Sl.ints (k := .i64) hsl
  have HC := Lib.hid hcells
  clear hcells hsl
  by_cases hl : 40 < l.length
  · go_enter Tryd.func3, Tryd.ntmps3
    go_wp2_with (go_at_call 15; refine (awake8_c _ hA.env).mono ?_; rintro e w1 ⟨rfl, hb⟩; have hA := hA.step hb; clear hb)
    go_ret
    exact ⟨rfl, hA.below⟩
  by_cases hk : 12 < xs.length
  · go_enter Tryd.func3, Tryd.ntmps3
    go_wp2_with (go_at_call 15; refine (awake8_c _ hA.env).mono ?_; rintro e w1 ⟨rfl, hb⟩; have hA := hA.step hb; clear hb)
    go_ret
    exact ⟨rfl, hA.below⟩
  go_enter Tryd.func3, Tryd.ntmps3
  go_wp2_with fail
  go_loopw [5, 6] (fun s i wr => ∃ (k : Nat) (t : List UInt8), k ≤ xs.length ∧ s = .string ⟨t.toArray⟩ ∧ t.length ≤ k ∧ i = .int .i64 k ∧ At w wr) (fun _ i _ => xs.length - (intOf i).toNat)
  case atStart => exact ⟨0, [], Nat.zero_le _, rfl, Nat.le_refl _, rfl, hA⟩
  case round =>
    obtain ⟨k, t, hk, rfl, htk, rfl, hA⟩ := hrel
    by_cases hlt : k < xs.length
    · obtain ⟨b, off, rfl, hb, hck0⟩ := HC.out k hlt
      have hck : wr.cell? ⟨b, off + k, none⟩ = some (.int .i64 (xs[k]'hlt)) := (hA.below.cell (p := ⟨b, off + k, none⟩) hb).trans hck0
      generalize hX : (xs[k]'hlt) = x at *
      clear hX hck0
      have hj := low_lt x 29 (by omega)
      generalize hJ : low x 29 = j at *
      have HJ := Lib.hid hJ
      clear hJ
      have hw1 : IntKind.i64.wrap ((j : Int) + 1) = (j : Int) + 1 := IntWalk.i64_in _ (by omega)
      have hw2 : ((j : Int) + 1).toNat = j + 1 := by omega
      have hw3 : (0 : Int) ≤ (j : Int) + 1 := by omega
      go_wp2_with fail
      go_quiet ((go_at_call 16; exact Calls.quiet_of_same (low_j x 29 j _ (by omega) (by omega) HJ.out)))
      have hA := hA.drewN nq
      clear hw1 hw2 hw3
      go_wp2_with fail
      exact ⟨⟨k + 1, _, by omega, rfl, by simp; omega, by go_num, hA⟩, by simp [intOf]; omega⟩
    · have e1 := core_eq l
      have e2 := core_eq t
      have HL : Hid (longOf l = house ++ l) := Lib.hid rfl
      generalize hX : coreP l = x at *
      generalize hY : coreP t = y at *
      have HX := Lib.hid hX
      have HX2 := Lib.hid e1
      have HY := Lib.hid hY
      have HY2 := Lib.hid e2
      clear hX e1 hY e2
      go_wp2_with fail
      refine (tag_c l _ (by omega)).mono ?_
      rw [HX.out]
      rintro e w1 ⟨rfl, hb1⟩
      have hA := hA.step hb1
      clear hb1
      go_wp2_with fail
      refine (rcore_c l _ (by omega)).mono ?_
      rw [← HX2.out]
      rintro e w2 ⟨rfl, rfl⟩
      go_wp2_with fail
      refine (tag_c t _ (by omega)).mono ?_
      rw [HY.out]
      rintro e w2 ⟨rfl, hb1⟩
      have hA := hA.step hb1
      clear hb1
      go_wp2_with fail
      refine (rcore_c t _ (by omega)).mono ?_
      rw [← HY2.out]
      rintro e w3 ⟨rfl, rfl⟩
      go_wp2_with fail
      refine (coreLong_c l _ (by omega)).mono ?_
      rw [HL.out]
      rintro e w3 ⟨rfl, rfl⟩
      go_wp2_with fail
      refine (awake8_c _ hA.env).mono ?_
      rintro e w3 ⟨rfl, hb1⟩
      have hA := hA.step hb1
      clear hb1
      go_wp2_with fail
      go_ret
      exact ⟨rfl, hA.below⟩
end Go.Proofs.YtjnmgmepolpcdaaDoor
