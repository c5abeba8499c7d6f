/- PickFlow: what may stand plain in brackets. -/
import Derived.Test.YtjfgcbikdibjeaaGreatDoorLawPick0
namespace Go.Proofs.YtjfgcbikdibjeaaGreatDoor
open Go.RowKit U Go.Proofs

def flowAny (l : List UInt8) (k : Nat) : Bool := (l.take k).any fun b => flowN b.toNat
theorem flowAny_step (l : List UInt8) (k : Nat) (h : k < l.length) : flowAny l (k + 1) = (flowAny l k || flowN (byt l k)) := by
  unfold flowAny
  rw [List.take_succ_eq_append_getElem h, List.any_append, ← byt_get l k h]
  simp
set_option maxRecDepth 100000 in
set_option maxHeartbeats 8000000 in
theorem pickFlow_c (l : List UInt8) (n : Int) (w : World) (hE : Env w) (_hl : l.length ≤ 9223372036854775807) (_n1 : -9223372036854775808 ≤ n) (_n2 : n ≤ 9223372036854775807) :
    Calls Tryz.prog 4 #[.string ⟨l.toArray⟩, .int .i64 n] w fun e w' => e = .returned (.bool true) ∧ Below w.heap.size w w' := by
  have hA := At.refl hE
  by_cases h80 : 80 < l.length
  · go_enter Tryz.func4, Tryz.ntmps4
    go_wp2_with fail
    refine (awake23_c _ hE).mono ?_
    rintro e w1 ⟨rfl, hb⟩
    go_wp2_with fail
    go_ret
    exact ⟨rfl, hb⟩
  have hl80 : l.length ≤ 80 := by omega
  clear h80 _hl
  go_enter Tryz.func4, Tryz.ntmps4
  go_wp2_with fail
  go_loopg [0, 5] 2 (fun gk s0 s5 wr => ∃ (i : Nat) (t : List UInt8), i ≤ 2 ∧ gk = 2 - i ∧ s0 = .string ⟨t.toArray⟩ ∧ s5 = .int .i64 i ∧ t.length ≤ 80 ∧ At w wr)
  case atStart => exact ⟨0, l, Nat.zero_le _, rfl, rfl, rfl, hl80, hA⟩
  case round =>
    clear hA
    obtain ⟨i, t, hi, hgk, rfl, rfl, htl, hA⟩ := hrel
    by_cases hlt : i < 2
    · have hPT := fun w hE => pplain_c t true w hE (by omega)
      have hPF := fun w hE => pplain_c t false w hE (by omega)
      have hfl := plain_flow t
      have hfa : (t.any fun b => flowN b.toNat) = flowAny t t.length := by unfold flowAny; rw [List.take_length]
      rw [hfa] at hfl
      have HFL := Lib.hid hfl
      clear hfl hfa
      have hd : decide ((i : Int) < 2) = true := decide_eq_true (by omega)
      go_upto_block 2 with fail
      go_cut [6, 7] from 12 to 28 (fun s6 _ wx => s6 = .bool (flowAny t t.length) ∧ wr = wx)
      case first =>
        clear HFL
        go_wp2_with fail
        go_loopg [6, 7] t.length (fun gk s6 s7 wx => ∃ k : Nat, k ≤ t.length ∧ gk = t.length - k ∧ s6 = .bool (flowAny t k) ∧ s7 = .int .i64 k ∧ wr = wx)
        case atStart => exact ⟨0, Nat.zero_le _, rfl, rfl, rfl, rfl⟩
        case round =>
          obtain ⟨k, hk, hgk2, rfl, rfl, rfl⟩ := hrel
          by_cases hk2 : k < t.length
          · have hst := Lib.hid (flowAny_step t k hk2)
            have hF := fun w => flow_c (byt t k) w (byt_lt t k)
            generalize flowN (byt t k) = fl at *
            cases hfa : flowAny t k with
            | true =>
              have HR : Hid (flowAny t (k + 1) = true) := Lib.hid (by rw [hst.out, hfa]; rfl)
              clear hst hfa
              go_wp2_with fail
              go_roundg (t.length - (k + 1))
              case measure => omega
              case rel => exact ⟨k + 1, by omega, rfl, by rw [HR.out], by go_num, rfl⟩
            | false =>
              have HR : Hid (flowAny t (k + 1) = fl) := Lib.hid (by rw [hst.out, hfa]; rfl)
              clear hst hfa
              go_wp2_with fail
              refine (hF _).mono ?_
              rintro e w2 ⟨rfl, rfl⟩
              go_wp2_with fail
              go_roundg (t.length - (k + 1))
              case measure => omega
              case rel => exact ⟨k + 1, by omega, rfl, by rw [HR.out], by go_num, rfl⟩
          · obtain rfl : k = t.length := by omega
            go_wp2_with fail
            go_meet
            exact ⟨rfl, rfl⟩
      case rest =>
        obtain ⟨rfl, rfl⟩ := hcut
        generalize flowAny t t.length = fa at *
        generalize plainM t true = pt at *
        generalize plainM t false = pf at *
        have hfl := HFL.out
        clear HFL
        have hWd := fun w => pword_c n w
        have hwl := pword_len n
        generalize pword n = wd at *
        cases pf <;> cases fa <;> (subst hfl)
        all_goals
          go_wp2_with fail
          refine (hPT _ hA.env).mono ?_
          rintro e w1 ⟨rfl, hb1⟩
          have hA := hA.step hb1
          go_wp2_with fail
          refine (hPF _ hA.env).mono ?_
          rintro e w2 ⟨rfl, hb2⟩
          have hA := hA.step hb2
          go_wp2_with fail
          refine (hWd _).mono ?_
          rintro e w3 ⟨rfl, hb3⟩
          have hA := hA.step hb3
          go_wp2_with fail
          go_roundg (2 - (i + 1))
          case measure => omega
          case rel => exact ⟨i + 1, wd, by omega, rfl, rfl, by go_num, by omega, hA⟩
    · obtain rfl : i = 2 := by omega
      go_wp2_with fail
      refine (awake23_c _ hA.env).mono ?_
      rintro e w1 ⟨rfl, hb⟩
      go_wp2_with fail
      go_ret
      exact ⟨rfl, (hA.step hb).below⟩
end Go.Proofs.YtjfgcbikdibjeaaGreatDoor
