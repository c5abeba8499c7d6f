/- The walk of bosketlaw2.TextPrints. -/
import Derived.Test.YtipcfdebbjfecaaDoorLawText0
import Derived.Test.YtipcfdebbjfecaaDoorWRefPrint
import Derived.Test.YtipcfdebbjfecaaDoorWLow
namespace Go.Proofs.YtipcfdebbjfecaaDoor
open Go.RowKit U Go.Proofs

def nears : List Int := [0, 8, 9, 10, 13, 31, 32, 126, 127, 133, 160, 55295, 55296, 57343, 57344, 65279, 65533, 65534, 65536, 1114111, 1114112]
theorem nears_all : ∀ x ∈ nears, 0 ≤ x ∧ x ≤ 1114112 := by decide
theorem nears_at (k : Nat) (h : k < 21) : ∃ x : Int, 0 ≤ x ∧ x ≤ 1114112 ∧ (nears.map (Value.int .i32))[k]'h = .int .i32 x := by
  have hk : k < nears.length := h
  refine ⟨nears[k]'hk, (nears_all _ (List.getElem_mem hk)).1, (nears_all _ (List.getElem_mem hk)).2, ?_⟩
  exact List.getElem_map (Value.int .i32)

set_option maxRecDepth 100000 in
set_option maxHeartbeats 1000000 in
theorem textPrints_c (r n : Int) (w : World) (hE : Env w) (_hr0 : -2147483648 ≤ r) (_hr1 : r ≤ 2147483647) (_hn0 : -9223372036854775808 ≤ n) (_hn1 : n ≤ 9223372036854775807) :
    Calls Tryd.prog 11 #[.int .i32 r, .int .i64 n] w fun e w' => e = .returned (.bool true) ∧ Below w.heap.size w w' := by
  have hA := At.refl hE
  have hl := low_lt n 21 (by omega)
  generalize hk : low n 21 = k at *
  have HK := Lib.hid hk
  clear hk
  obtain ⟨x, hx0, hx1, hx⟩ := nears_at k hl
  simp only [nears, List.map_cons, List.map_nil] at hx
  have HX := Lib.hid hx
  clear hx
  go_enter Tryd.func11, Tryd.ntmps11
  go_wp2_with fail
  refine (low_c n 21 _ (by omega) (by omega)).mono ?_
  rw [HK.out]
  rintro e w1 ⟨rfl, rfl⟩
  go_wp2_with fail
  rw [HX.out]
  go_loopw [7] (fun i wr => ∃ j : Nat, j ≤ 3 ∧ i = .int .i32 (j - 1) ∧ At w wr) (fun i _ => (2 - intOf i).toNat)
  case atStart => exact ⟨0, by omega, rfl, hA.alloc _⟩
  case round =>
    obtain ⟨j, hj, rfl, hA⟩ := hrel
    by_cases hlt : j < 3
    · go_wp2_with fail
      refine (printable_c _ _).mono ?_
      rintro e w1 ⟨rfl, rfl⟩
      go_wp2_with fail
      refine (refPrintable_c _ _).mono ?_
      rintro e w1 ⟨rfl, rfl⟩
      go_wp2_with fail
      refine ⟨⟨j + 1, by omega, by go_num, hA⟩, ?_⟩
      simp [intOf]; omega
    · obtain rfl : j = 3 := by omega
      go_wp2_with fail
      refine (printable_c r _).mono ?_
      rintro e w1 ⟨rfl, rfl⟩
      go_wp2_with fail
      refine (refPrintable_c r _).mono ?_
      rintro e w1 ⟨rfl, rfl⟩
      go_wp2_with fail
      refine (awake2_c _ hA.env).mono ?_
      rintro e w1 ⟨rfl, hb⟩
      have hA := hA.step hb
      clear hb
      go_wp2_with fail
      go_ret
      exact ⟨rfl, hA.below⟩
end Go.Proofs.YtipcfdebbjfecaaDoor
