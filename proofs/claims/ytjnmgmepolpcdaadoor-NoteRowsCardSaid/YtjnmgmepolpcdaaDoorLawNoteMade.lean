/- The walk of bosketlaw15.NoteMade. -/
import Derived.Test.YtjnmgmepolpcdaaDoorLawNoteTells
import Derived.Laws.OwnMore
namespace Go.Proofs.YtjnmgmepolpcdaaDoor
open Go.RowKit U Go.Proofs

def noteL : List (List UInt8) := [[32], [10], [35, 32, 97], [35], [9], [10, 32], [10, 32, 32], [120], [10, 45, 45, 45], [10, 46, 46, 46, 10], [32, 35, 32, 98, 32, 10], [10, 10], [45, 32], [10, 9]]
theorem note_ok : ∀ j, j < 14 → (noteL.getD j []).length ≤ 7 := by decide
set_option maxRecDepth 100000 in
set_option maxHeartbeats 4000000 in
theorem noteMade_c (ks : List Int) (kv : Value) (a n : Int) (w : World) (hE : Env w) (hk : Sl w kv (ks.map fun x : Int => Value.int .i64 x)) (_hkw : ∀ x ∈ ks, (Lit.int .i64 x).wf = true) (_hks : ks.length ≤ 9223372036854775807) (_a1 : -9223372036854775808 ≤ a) (_a2 : a ≤ 9223372036854775807) (_n1 : -9223372036854775808 ≤ n) (_n2 : n ≤ 9223372036854775807) :
    Calls Tryd.prog 8 #[kv, .int .i64 a, .int .i64 n] w fun e w' => e = .returned (.bool true) ∧ Below w.heap.size w w' := by
  have hA := At.refl hE
  obtain ⟨ka, kc, rfl, hkc⟩ := Sl.ints (k := .i64) hk
  have HC := Lib.hid hkc
  clear hkc hk
  by_cases hk : 24 < ks.length
  · go_enter Tryd.func8, Tryd.ntmps8
    go_wp2_with (go_at_call 22; refine (awake15_c _ hA.env).mono ?_; rintro e w1 ⟨rfl, hb⟩; have hA := hA.step hb; clear hb)
    go_ret
    exact ⟨rfl, hA.below⟩
  have hL4 := fun w => lit_low n 4 (low n 4) w (by omega) (by omega) rfl
  have hll := low_lt n 4 (by omega)
  generalize low n 4 = j4 at *
  go_enter Tryd.func8, Tryd.ntmps8
  go_wp2_with fail
  go_loopw [7, 8] (fun s i wr => ∃ (k : Nat) (t : List UInt8), k ≤ ks.length ∧ s = .string ⟨t.toArray⟩ ∧ t.length ≤ 7 * k ∧ i = .int .i64 k ∧ At w wr) (fun _ i _ => ks.length - (intOf i).toNat)
  case atStart => exact ⟨0, [], Nat.zero_le _, rfl, Nat.zero_le _, rfl, hA⟩
  case round =>
    obtain ⟨k, t, hkk, rfl, htk, rfl, hA⟩ := hrel
    by_cases hlt : k < ks.length
    · obtain ⟨b, off, rfl, hb, hck0⟩ := HC.out k hlt
      have hck : wr.cell? ⟨b, off + k, none⟩ = some (.int .i64 (ks[k]'hlt)) := (hA.below.cell (p := ⟨b, off + k, none⟩) hb).trans hck0
      generalize hX : (ks[k]'hlt) = x at *
      clear hX hck0
      have hj := low_lt x 14 (by omega)
      generalize hJ : low x 14 = j at *
      have HJ := Lib.hid hJ
      clear hJ
      have hLow := fun w => lit_low x 14 j w (by omega) (by omega) HJ.out
      go_wp2_with fail
      refine (hLow _).mono ?_
      rintro e w1 ⟨rfl, hw1⟩
      obtain rfl := hw1.symm
      have cj := lit_cell wr 9 (strs noteL) j _ (lit_at (xs := noteL) hj)
      change (wr.alloc (.cells #[.string ⟨#[32]⟩, .string ⟨#[10]⟩, .string ⟨#[35, 32, 97]⟩, .string ⟨#[35]⟩, .string ⟨#[9]⟩, .string ⟨#[10, 32]⟩, .string ⟨#[10, 32, 32]⟩, .string ⟨#[120]⟩, .string ⟨#[10, 45, 45, 45]⟩, .string ⟨#[10, 46, 46, 46, 10]⟩, .string ⟨#[32, 35, 32, 98, 32, 10]⟩, .string ⟨#[10, 10]⟩, .string ⟨#[45, 32]⟩, .string ⟨#[10, 9]⟩] 9)).cell? ⟨wr.heap.size, j, none⟩ = _ at cj
      have hpl := note_ok j hj
      generalize noteL.getD j [] = p at *
      have hj0 : (0 : Int) ≤ (j : Int) := by omega
      have hj1 : (j : Int) < 14 := by omega
      have hA := hA.alloc (.cells #[.string ⟨#[32]⟩, .string ⟨#[10]⟩, .string ⟨#[35, 32, 97]⟩, .string ⟨#[35]⟩, .string ⟨#[9]⟩, .string ⟨#[10, 32]⟩, .string ⟨#[10, 32, 32]⟩, .string ⟨#[120]⟩, .string ⟨#[10, 45, 45, 45]⟩, .string ⟨#[10, 46, 46, 46, 10]⟩, .string ⟨#[32, 35, 32, 98, 32, 10]⟩, .string ⟨#[10, 10]⟩, .string ⟨#[45, 32]⟩, .string ⟨#[10, 9]⟩] 9)
      go_wp2_with fail
      exact ⟨⟨k + 1, _, by omega, rfl, by simp; omega, by go_num, hA⟩, by simp [intOf]; omega⟩
    · obtain rfl : k = ks.length := by omega
      have htl : t.length ≤ 168 := by omega
      have hLow := fun w => lit_low a (t.length + 1) (low a (t.length + 1)) w (by omega) (by omega) rfl
      have hle := low_lt a (t.length + 1) (by omega)
      rw [show ((t.length + 1 : Nat) : Int) = (t.length : Int) + 1 by omega] at hLow
      generalize low a (t.length + 1) = p at *
      go_wp2_with fail
      refine (hLow _).mono ?_
      rintro e w1 ⟨rfl, hw1⟩
      obtain rfl := hw1.symm
      go_wp2_with fail
      refine (hL4 _).mono ?_
      rintro e w1 ⟨rfl, hw1⟩
      obtain rfl := hw1.symm
      go_wp2_with fail
      refine (same15_c t p _ _ (by omega)).mono ?_
      rintro e w2 ⟨rfl, hb⟩
      have hA := hA.step hb
      clear hb
      go_wp2_with fail
      refine (same15_c t 0 _ _ (by omega)).mono ?_
      rintro e w2 ⟨rfl, hb⟩
      have hA := hA.step hb
      clear hb
      go_wp2_with fail
      refine (awake15_c _ hA.env).mono ?_
      rintro e w3 ⟨rfl, hb⟩
      have hA := hA.step hb
      clear hb
      go_wp2_with fail
      go_ret
      exact ⟨rfl, hA.below⟩
end Go.Proofs.YtjnmgmepolpcdaaDoor
