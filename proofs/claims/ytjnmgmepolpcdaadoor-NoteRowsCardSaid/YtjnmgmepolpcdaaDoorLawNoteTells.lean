/- The walks of bosketlaw15.awake and NoteTells. -/
import Derived.Test.YtjnmgmepolpcdaaDoorLawNote0
import Derived.Test.YtjnmgmepolpcdaaDoorLits
namespace Go.Proofs.YtjnmgmepolpcdaaDoor
open Go.RowKit U Go.Proofs

set_option maxRecDepth 100000 in
set_option maxHeartbeats 4000000 in
theorem awake15_c (w : World) (_hE : Env w) : Calls Tryd.prog 22 #[] w fun e w' => e = .returned (.bool true) ∧ Below w.heap.size w w' := by
  have p1 : skipM [32, 35, 32, 97, 32, 10, 10, 35, 32, 98, 10, 120] (heldM [32, 35, 32, 97, 32, 10, 10, 35, 32, 98, 10, 120] 0) = ([([32, 97], 0), ([32, 98], 1)], false, 11, 0) := by decide +kernel
  have p2 : skipM [10, 9, 120] (heldM [10, 9, 120] 0) = ([], false, 1, 4) := by decide +kernel
  have h1 := fun w => skip_c [32, 35, 32, 97, 32, 10, 10, 35, 32, 98, 10, 120] 0 w (by decide)
  have h2 := fun w => skip_c [10, 9, 120] 0 w (by decide)
  simp only [p1] at h1
  simp only [p2] at h2
  clear p1 p2
  go_enter Tryd.func22, Tryd.ntmps22
  go_wp2_with fail
  refine (h1 _).mono ?_
  rintro e w1 ⟨v1, rfl, hown1, hb1⟩
  have hn1 := NV.of hown1
  have hA := hb1
  clear hown1 hb1
  go_wp2_with fail
  refine (h2 _).mono ?_
  rintro e w2 ⟨v2, rfl, hown2, hb2⟩
  have hn1 := hn1.below hb2
  have hA := hA.trans (hb2.mono hA.size)
  obtain ⟨a2, c2, rfl⟩ := own_shape hown2
  clear hown2 hb2
  obtain ⟨g, cap, rfl, hg, hc⟩ := hn1.cells (by decide)
  have hc0 := hc 0 (by decide)
  have hc1 := hc 1 (by decide)
  obtain ⟨d0, d1⟩ := hc0
  obtain ⟨d2, d3⟩ := hc1
  clear hc hn1 h1 h2
  have d0 : w2.cell? ⟨g, 0, none⟩ = some (.string ⟨#[32, 97]⟩) := d0
  have d2 : w2.cell? ⟨g, 2, none⟩ = some (.string ⟨#[32, 98]⟩) := d2
  have d3 : w2.cell? ⟨g, 3, none⟩ = some (.int .i64 1) := d3
  go_wp2_with fail
  go_ret
  exact ⟨rfl, hA⟩
set_option maxRecDepth 100000 in
set_option maxHeartbeats 4000000 in
theorem noteTells_c (l : List UInt8) (a n : Int) (w : World) (hE : Env w) (hs : l.length ≤ 9223372036854775807) (_a1 : -9223372036854775808 ≤ a) (_a2 : a ≤ 9223372036854775807) (_n1 : -9223372036854775808 ≤ n) (_n2 : n ≤ 9223372036854775807) :
    Calls Tryd.prog 7 #[.string ⟨l.toArray⟩, .int .i64 a, .int .i64 n] w fun e w' => e = .returned (.bool true) ∧ Below w.heap.size w w' := by
  have hA := At.refl hE
  by_cases hl : 60 < l.length
  · go_enter Tryd.func7, Tryd.ntmps7
    go_wp2_with (go_at_call 22; refine (awake15_c _ hA.env).mono ?_; rintro e w1 ⟨rfl, hb⟩; have hA := hA.step hb; clear hb)
    go_ret
    exact ⟨rfl, hA.below⟩
  have hL := fun w => lit_low n 4 (low n 4) w (by omega) (by omega) rfl
  have hll := low_lt n 4 (by omega)
  generalize low n 4 = j at *
  go_enter Tryd.func7, Tryd.ntmps7
  go_wp2_with fail
  go_loopw [7] (fun x wr => ∃ p : Nat, p ≤ l.length + 1 ∧ x = .int .i64 p ∧ At w wr) (fun x _ => l.length + 1 - (intOf x).toNat)
  case atStart => exact ⟨0, Nat.zero_le _, rfl, hA⟩
  case round =>
    obtain ⟨p, hp, rfl, hA⟩ := hrel
    by_cases hlt : p ≤ l.length
    · go_wp2_with fail
      refine (hL _).mono ?_
      rintro e w1 ⟨rfl, hw1⟩
      obtain rfl := hw1.symm
      go_wp2_with fail
      refine (same15_c l p _ _ (by omega)).mono ?_
      rintro e w2 ⟨rfl, hb⟩
      have hA := hA.step hb
      clear hb
      go_wp2_with fail
      go_roundw
      case rel => exact ⟨p + 1, by omega, by go_num, hA⟩
      case measure => simp [intOf]; omega
    · go_wp2_with fail
      refine (same15_c l a n _ (by omega)).mono ?_
      rintro e w2 ⟨rfl, hb⟩
      have hA := hA.step hb
      clear hb
      go_wp2_with fail
      refine (awake15_c _ hA.env).mono ?_
      rintro e w3 ⟨rfl, hb⟩
      have hA := hA.step hb
      clear hb
      go_wp2_with fail
      go_ret
      exact ⟨rfl, hA.below⟩
end Go.Proofs.YtjnmgmepolpcdaaDoor
