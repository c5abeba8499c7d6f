/- The walk of bosketlaw5.EscaTells. -/
import Derived.Test.YtobojdkloblfbaaDoorLawEsca0
namespace Go.Proofs.YtobojdkloblfbaaDoor
open Go.RowKit U Go.Proofs

set_option maxRecDepth 100000 in
set_option maxHeartbeats 4000000 in
theorem escaTells_c (l : List UInt8) (a r : Int) (b : Bool) (w : World) (hE : Env w) (hT : Tz w) (hs : l.length ≤ 9223372036854775807) (ha0 : -9223372036854775808 ≤ a) (ha1 : a ≤ 9223372036854775807) (_r0 : -2147483648 ≤ r) (_r1 : r ≤ 2147483647) :
    Calls Tryd.prog 3 #[.string ⟨l.toArray⟩, .int .i64 a, .int .i32 r, .bool b] w fun e w' => e = .returned (.bool true) ∧ Below w.heap.size w w' := by
  have hA := At.refl hE
  by_cases hl : 100 < l.length
  · go_enter Tryd.func3, Tryd.ntmps3
    go_wp2_with (go_at_call 16; refine (awake5_c _ hA.env (hT.below hA.below)).mono ?_; rintro e w1 ⟨rfl, hb⟩; have hA := hA.step hb; clear hb)
    go_ret
    exact ⟨rfl, hA.below⟩
  go_enter Tryd.func3, Tryd.ntmps3
  go_wp2_with fail
  go_loopw [1, 9] (fun x i wr => ∃ (p : Int) (k : Nat), -9223372036854775808 ≤ p ∧ p ≤ 9223372036854775807 ∧ x = .int .i64 p ∧ k ≤ 2 ∧ i = .int .i64 k ∧ At w wr) (fun _ i _ => 2 - (intOf i).toNat)
  case atStart => exact ⟨a, 0, ha0, ha1, rfl, by omega, rfl, hA⟩
  case round =>
    obtain ⟨p, k, hp0, hp1, rfl, hk, rfl, hA⟩ := hrel
    by_cases hlt : k < 2
    · have h1 := fun w => escRead_c l p w (by omega) hp0 hp1
      have h2 := fun w => escape_c l p w (by omega) hp0 hp1
      generalize escM l p = R at *
      obtain ⟨r1, r2, r3⟩ := R
      go_wp2_with fail
      refine (h1 _).mono ?_
      rintro e w1 ⟨rfl, rfl⟩
      go_wp2_with fail
      refine (h2 _).mono ?_
      rintro e w1 ⟨rfl, n, rfl⟩
      have hA := hA.drewN n
      generalize wr.drewN n = W at *
      have hL := low_c p (l.length + 1) W (by omega) (by omega)
      have hq := low_lt p (l.length + 1) (by omega)
      generalize low p (l.length + 1) = q at *
      clear h1 h2
      go_wp2_with fail
      refine hL.mono ?_
      rintro e w1 ⟨rfl, rfl⟩
      go_wp2_with fail
      go_roundw
      case rel => exact ⟨q, k + 1, by omega, by omega, rfl, by omega, by go_num, hA⟩
      case measure => simp [intOf]; omega
    · obtain rfl : k = 2 := by omega
      go_wp2_with fail
      refine (show_c r _ (hT.below hA.below)).mono ?_
      rintro e w1 ⟨rfl, hb⟩
      have hA := hA.step hb
      clear hb
      go_wp2_with fail
      refine (rshow_c r _).mono ?_
      rintro e w1 ⟨rfl, hb⟩
      have hA := hA.step hb
      clear hb
      go_wp2_with fail
      refine (single_c l _ hA.env (by omega)).mono ?_
      rintro e w1 ⟨rfl, hb⟩
      have hA := hA.step hb
      clear hb
      go_wp2_with fail
      refine (rsingle_c l _ (by omega)).mono ?_
      rintro e w1 ⟨rfl, hb⟩
      have hA := hA.step hb
      clear hb
      go_wp2_with fail
      refine (quote_c l b _ hA.env (hT.below hA.below) (by omega)).mono ?_
      rintro e w1 ⟨rfl, hb⟩
      have hA := hA.step hb
      clear hb
      go_wp2_with fail
      refine (rquote_c l b _ (by omega)).mono ?_
      rintro e w1 ⟨rfl, hb⟩
      have hA := hA.step hb
      clear hb
      go_wp2_with fail
      refine (awake5_c _ hA.env (hT.below hA.below)).mono ?_
      rintro e w1 ⟨rfl, hb⟩
      have hA := hA.step hb
      clear hb
      go_wp2_with fail
      go_ret
      exact ⟨rfl, hA.below⟩
end Go.Proofs.YtobojdkloblfbaaDoor
