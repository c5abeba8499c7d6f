/- The walk of bosketlaw13.BlocMade. -/
import Derived.Test.YtobojdkloblfbaaDoorLawBlocSame
import Derived.Test.YtobojdkloblfbaaDoorLits
namespace Go.Proofs.YtobojdkloblfbaaDoor
open Go.RowKit U Go.Proofs

def madeH : List (List UInt8) := [[124], [62], [124, 45], [62, 45], [124, 43], [62, 43], [124, 49], [62, 50, 43]]
theorem madeH_ok : ∀ j < 8, (madeH.getD j []).length ≤ 3 := by decide
def madeT : List (List UInt8) := [[97], [98, 32, 99], [32], [32, 32], [10], [10], [10, 32], [10, 32, 32], [10, 32, 32, 32], [10, 35, 32, 100], [9], [10, 10, 32, 32], [10, 45, 45, 45], [10, 46, 46, 46], [195, 169], [10, 32, 32, 32, 32]]
theorem madeT_ok : ∀ j < 16, (madeT.getD j []).length ≤ 5 := by decide
set_option maxRecDepth 100000 in
set_option maxHeartbeats 8000000 in
theorem blocMade_c (ks : List Int) (kv : Value) (n f : Int) (w : World) (hE : Env w) (hk : Sl w kv (ks.map fun x : Int => Value.int .i64 x)) (_hkw : ∀ x ∈ ks, (Lit.int .i64 x).wf = true) (_hks : ks.length ≤ 9223372036854775807) (_n1 : -9223372036854775808 ≤ n) (_n2 : n ≤ 9223372036854775807)
    (_f1 : -9223372036854775808 ≤ f) (_f2 : f ≤ 9223372036854775807) :
    Calls Tryd.prog 10 #[kv, .int .i64 n, .int .i64 f] w fun e w' => e = .returned (.bool true) ∧ Below w.heap.size w w' := by
  have hA := At.refl hE
  obtain ⟨ka, kc, rfl, hkc⟩ := Sl.ints (k := .i64) hk
  have HC := Lib.hid hkc
  clear hkc hk
  by_cases hk : 24 < ks.length
  · go_enter Tryd.func10, Tryd.ntmps10
    go_wp2_with (go_at_call 34; refine (awake13_c _).mono ?_; rintro e w1 ⟨rfl, hb⟩; have hA := hA.step hb; clear hb)
    go_ret
    exact ⟨rfl, hA.below⟩
  have hLn := fun w => lit_low n 4 (low n 4) w (by omega) (by omega) rfl
  have hLj := fun w => lit_low f 8 (low f 8) w (by omega) (by omega) rfl
  have hn := low_lt n 4 (by omega)
  have hj := low_lt f 8 (by omega)
  generalize low n 4 = m at *
  generalize low f 8 = j at *
  have cj := lit_cell w 9 (strs madeH) j _ (lit_at (xs := madeH) hj)
  change (w.alloc (.cells #[.string ⟨#[124]⟩, .string ⟨#[62]⟩, .string ⟨#[124, 45]⟩, .string ⟨#[62, 45]⟩, .string ⟨#[124, 43]⟩, .string ⟨#[62, 43]⟩, .string ⟨#[124, 49]⟩, .string ⟨#[62, 50, 43]⟩] 9)).cell? ⟨w.heap.size, j, none⟩ = _ at cj
  have hpl := madeH_ok j hj
  generalize madeH.getD j [] = hd at *
  have hA1 := hA.alloc (.cells #[.string ⟨#[124]⟩, .string ⟨#[62]⟩, .string ⟨#[124, 45]⟩, .string ⟨#[62, 45]⟩, .string ⟨#[124, 43]⟩, .string ⟨#[62, 43]⟩, .string ⟨#[124, 49]⟩, .string ⟨#[62, 50, 43]⟩] 9)
  have hj0 : (0 : Int) ≤ (j : Int) := by omega
  have hj8 : (j : Int) < 8 := by omega
  go_enter Tryd.func10, Tryd.ntmps10
  go_wp2_with fail
  refine (hLj _).mono ?_
  rintro e w1 ⟨rfl, hw1⟩
  obtain rfl := hw1.symm
  generalize w.alloc (.cells #[.string ⟨#[124]⟩, .string ⟨#[62]⟩, .string ⟨#[124, 45]⟩, .string ⟨#[62, 45]⟩, .string ⟨#[124, 43]⟩, .string ⟨#[62, 43]⟩, .string ⟨#[124, 49]⟩, .string ⟨#[62, 50, 43]⟩] 9) = w1 at *
  have hA := hA1
  clear hA1 hLj
  go_upto_region 4 with fail
  clear cj hj0 hj8
  go_wp2_with fail
  go_loopw [8, 9] (fun s i wr => ∃ (k : Nat) (t : List UInt8), k ≤ ks.length ∧ s = .string ⟨t.toArray⟩ ∧ t.length ≤ 4 + 5 * k ∧ i = .int .i64 k ∧ At w wr) (fun _ i _ => ks.length - (intOf i).toNat)
  case atStart => exact ⟨0, _, Nat.zero_le _, rfl, by simp; omega, rfl, hA⟩
  case round =>
    clear hA
    obtain ⟨k, t, hkk, rfl, htk, rfl, hA⟩ := hrel
    by_cases hlt : k < ks.length
    · obtain ⟨b, off, rfl, hb, hck0⟩ := HC.out k hlt
      have hck : wr.cell? ⟨b, off + k, none⟩ = some (.int .i64 (ks[k]'hlt)) := (hA.below.cell (p := ⟨b, off + k, none⟩) hb).trans hck0
      generalize hX : (ks[k]'hlt) = x at *
      clear hX hck0
      have hj := low_lt x 16 (by omega)
      generalize hJ : low x 16 = j at *
      have HJ := Lib.hid hJ
      clear hJ
      have hLow := fun w => lit_low x 16 j w (by omega) (by omega) HJ.out
      go_wp2_with fail
      refine (hLow _).mono ?_
      rintro e w2 ⟨rfl, hw2⟩
      obtain rfl := hw2.symm
      have cj := lit_cell wr 9 (strs madeT) j _ (lit_at (xs := madeT) hj)
      change (wr.alloc (.cells #[.string ⟨#[97]⟩, .string ⟨#[98, 32, 99]⟩, .string ⟨#[32]⟩, .string ⟨#[32, 32]⟩, .string ⟨#[10]⟩, .string ⟨#[10]⟩, .string ⟨#[10, 32]⟩, .string ⟨#[10, 32, 32]⟩, .string ⟨#[10, 32, 32, 32]⟩, .string ⟨#[10, 35, 32, 100]⟩, .string ⟨#[9]⟩, .string ⟨#[10, 10, 32, 32]⟩, .string ⟨#[10, 45, 45, 45]⟩, .string ⟨#[10, 46, 46, 46]⟩, .string ⟨#[195, 169]⟩, .string ⟨#[10, 32, 32, 32, 32]⟩] 9)).cell? ⟨wr.heap.size, j, none⟩ = _ at cj
      have hpl := madeT_ok j hj
      generalize madeT.getD j [] = p at *
      have hj0 : (0 : Int) ≤ (j : Int) := by omega
      have hj1 : (j : Int) < 16 := by omega
      have hA := hA.alloc (.cells #[.string ⟨#[97]⟩, .string ⟨#[98, 32, 99]⟩, .string ⟨#[32]⟩, .string ⟨#[32, 32]⟩, .string ⟨#[10]⟩, .string ⟨#[10]⟩, .string ⟨#[10, 32]⟩, .string ⟨#[10, 32, 32]⟩, .string ⟨#[10, 32, 32, 32]⟩, .string ⟨#[10, 35, 32, 100]⟩, .string ⟨#[9]⟩, .string ⟨#[10, 10, 32, 32]⟩, .string ⟨#[10, 45, 45, 45]⟩, .string ⟨#[10, 46, 46, 46]⟩, .string ⟨#[195, 169]⟩, .string ⟨#[10, 32, 32, 32, 32]⟩] 9)
      go_wp2_with fail
      exact ⟨⟨k + 1, _, by omega, rfl, by simp; omega, by go_num, hA⟩, by simp [intOf]; omega⟩
    · obtain rfl : k = ks.length := by omega
      have htl : t.length ≤ 124 := by omega
      clear HC
      go_wp2_with fail
      refine (hLn _).mono ?_
      rintro e w2 ⟨rfl, hw2⟩
      obtain rfl := hw2.symm
      go_wp2_with fail
      refine (same13_c t 0 _ _ (by omega) (by omega) (by omega)).mono ?_
      rintro e w3 ⟨rfl, hb⟩
      have hA := hA.step hb
      clear hb
      go_wp2_with fail
      refine (hLn _).mono ?_
      rintro e w4 ⟨rfl, hw4⟩
      obtain rfl := hw4.symm
      go_wp2_with fail
      refine (same13_c _ 0 _ _ (by simp; omega) (by omega) (by omega)).mono ?_
      rintro e w5 ⟨rfl, hb⟩
      have hA := hA.step hb
      clear hb
      go_wp2_with fail
      refine (awake13_c _).mono ?_
      rintro e w6 ⟨rfl, hb⟩
      have hA := hA.step hb
      clear hb
      go_wp2_with fail
      go_ret
      exact ⟨rfl, hA.below⟩
end Go.Proofs.YtobojdkloblfbaaDoor
