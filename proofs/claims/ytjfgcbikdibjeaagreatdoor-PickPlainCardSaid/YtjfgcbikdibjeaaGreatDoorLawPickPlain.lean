/- PickPlain: what may stand plain is read as it is, whole, whatever of this stands behind it. -/
import Derived.Test.YtjfgcbikdibjeaaGreatDoorLawPick0
import Derived.Test.YtjfgcbikdibjeaaGreatDoorWPlai3
namespace Go.Proofs.YtjfgcbikdibjeaaGreatDoor
open Go.RowKit U Go.Proofs

theorem behind_len : ∀ k, k < 10 → (behindP k).length ≤ 6 := by decide
set_option maxRecDepth 100000 in
set_option maxHeartbeats 8000000 in
theorem pickPlain_c (l : List UInt8) (n b : Int) (flow : Bool) (w : World) (hE : Env w) (_hl : l.length ≤ 9223372036854775807) (_n1 : -9223372036854775808 ≤ n) (_n2 : n ≤ 9223372036854775807) (_y1 : -9223372036854775808 ≤ b) (_y2 : b ≤ 9223372036854775807) :
    Calls Tryz.prog 9 #[.string ⟨l.toArray⟩, .int .i64 n, .int .i64 b, .bool flow] w fun e w' => e = .returned (.bool true) ∧ Below w.heap.size w w' := by
  have hA := At.refl hE
  by_cases h80 : 80 < l.length
  · go_enter Tryz.func9, Tryz.ntmps9
    go_wp2_with fail
    refine (awake23_c _ hE).mono ?_
    rintro e w1 ⟨rfl, hb⟩
    go_wp2_with fail
    go_ret
    exact ⟨rfl, hb⟩
  have hl80 : l.length ≤ 80 := by omega
  clear h80 _hl
  have hLw := fun w => low_c b 10 w (by omega) (by omega)
  have hc10 := low_lt b 10 (by omega)
  generalize low b 10 = c at *
  obtain ⟨k, hk⟩ : ∃ k, k = if flow = true then c else c % 5 := ⟨_, rfl⟩
  have hk10 : k < 10 := by rw [hk]; split <;> omega
  have hkf : flow = true ∨ k < 5 := by
    rcases Bool.eq_false_or_eq_true flow with h | h
    · exact .inl h
    · right; rw [hk, if_neg (by rw [h]; decide)]; omega
  have hbeh := behind_all k hk10 flow hkf
  have hbl := behind_len k hk10
  have hx : behindP k = behindL.getD k [] := rfl
  have hlit := lit_at (xs := behindL) (k := k) hk10
  rw [← hx] at hlit
  generalize behindP k = bh at *
  have hk0 : (0 : Int) ≤ (k : Int) := by omega
  have hk10' : (k : Int) < 10 := by omega
  have HB := Lib.hid hbeh
  have hck : ∀ w : World, (w.alloc (.cells #[.string ⟨#[]⟩, .string ⟨#[10, 107, 58, 32, 118]⟩, .string ⟨#[32, 35, 32, 99]⟩, .string ⟨#[58, 32, 118]⟩, .string ⟨#[32, 9, 35, 32, 100, 10]⟩, .string ⟨#[44, 32, 121]⟩, .string ⟨#[93]⟩, .string ⟨#[125]⟩, .string ⟨#[58, 44]⟩, .string ⟨#[91, 122]⟩] 9)).cell? ⟨w.heap.size, k, none⟩ = some (.string ⟨bh.toArray⟩) := fun w => lit_cell w 9 (strs behindL) k _ hlit
  have HCK := Lib.hid hck
  clear hx hlit hbeh hkf hck
  go_enter Tryz.func9, Tryz.ntmps9
  go_wp2_with fail
  go_loopg [0, 9] 2 (fun gk s0 s9 wr => ∃ (i : Nat) (t : List UInt8), i ≤ 2 ∧ gk = 2 - i ∧ s0 = .string ⟨t.toArray⟩ ∧ s9 = .int .i64 i ∧ t.length ≤ 80 ∧ At w wr)
  case atStart => exact ⟨0, l, Nat.zero_le _, rfl, rfl, rfl, hl80, hA⟩
  case round =>
    clear hA
    obtain ⟨i, t, hi, hgk, rfl, rfl, htl, hA⟩ := hrel
    by_cases hlt : i < 2
    · have hWd := fun w => pword_c n w
      have hwl := pword_len n
      generalize pword n = wd at *
      have hPl := fun w hE => pplain_c t flow w hE (by omega)
      cases hpl : plainM t flow with
      | false =>
        rw [hpl] at hPl
        clear hpl hk HB HCK
        go_wp2_with fail
        refine (hPl _ hA.env).mono ?_
        rintro e w1 ⟨rfl, hb1⟩
        have hA := hA.step hb1
        clear hb1
        go_wp2_with fail
        refine (hWd _).mono ?_
        rintro e w3 ⟨rfl, hb3⟩
        have hA := hA.step hb3
        go_wp2_with fail
        go_roundg (2 - (i + 1))
        case measure => omega
        case rel => exact ⟨i + 1, wd, by omega, rfl, rfl, by go_num, by omega, hA⟩
      | true =>
        rw [hpl] at hPl
        obtain ⟨hr1, hr2, hr3⟩ := plain_read (plain_iff.1 hpl) HB.out
        have hRd := fun w => pread1_c (t ++ bh) t t.length flow w (by rw [List.length_append]; omega) hr1 hr2 hr3 (by rw [List.length_append]; omega) List.take_left
        clear hpl HB hr1 hr2 hr3
        cases flow with
        | false =>
          have gr : Int.tmod (c : Int) 5 = (k : Int) := by
            rw [hk, if_neg (by decide), Int.tmod_eq_emod_of_nonneg (by omega)]; omega
          clear hk
          go_upto_region 10 with fail
          refine (hPl _ hA.env).mono ?_
          rintro e w1 ⟨rfl, hb1⟩
          have hA := hA.step hb1
          clear hb1
          have ck := HCK.out w1
          have hA := hA.alloc (.cells #[.string ⟨#[]⟩, .string ⟨#[10, 107, 58, 32, 118]⟩, .string ⟨#[32, 35, 32, 99]⟩, .string ⟨#[58, 32, 118]⟩, .string ⟨#[32, 9, 35, 32, 100, 10]⟩, .string ⟨#[44, 32, 121]⟩, .string ⟨#[93]⟩, .string ⟨#[125]⟩, .string ⟨#[58, 44]⟩, .string ⟨#[91, 122]⟩] 9)
          go_upto_region 10 with fail
          refine (hLw _).mono ?_
          rintro e w2 ⟨rfl, rfl⟩
          clear HCK hLw
          go_upto_region 10 with fail
          go_wp2_with fail
          generalize w1.alloc (.cells #[.string ⟨#[]⟩, .string ⟨#[10, 107, 58, 32, 118]⟩, .string ⟨#[32, 35, 32, 99]⟩, .string ⟨#[58, 32, 118]⟩, .string ⟨#[32, 9, 35, 32, 100, 10]⟩, .string ⟨#[44, 32, 121]⟩, .string ⟨#[93]⟩, .string ⟨#[125]⟩, .string ⟨#[58, 44]⟩, .string ⟨#[91, 122]⟩] 9) = W at *
          refine (hRd _).mono ?_
          rintro e w2 ⟨rfl, hb2⟩
          have hA := hA.step hb2
          clear hb2 hRd ck
          go_wp2_with fail
          refine (hWd _).mono ?_
          rintro e w3 ⟨rfl, hb3⟩
          have hA := hA.step hb3
          go_wp2_with fail
          go_roundg (2 - (i + 1))
          case measure => omega
          case rel => exact ⟨i + 1, wd, by omega, rfl, rfl, by go_num, by omega, hA⟩
        | true =>
          obtain rfl : k = c := by rw [hk, if_pos rfl]
          clear hk
          go_upto_region 10 with fail
          refine (hPl _ hA.env).mono ?_
          rintro e w1 ⟨rfl, hb1⟩
          have hA := hA.step hb1
          clear hb1
          have ck := HCK.out w1
          have hA := hA.alloc (.cells #[.string ⟨#[]⟩, .string ⟨#[10, 107, 58, 32, 118]⟩, .string ⟨#[32, 35, 32, 99]⟩, .string ⟨#[58, 32, 118]⟩, .string ⟨#[32, 9, 35, 32, 100, 10]⟩, .string ⟨#[44, 32, 121]⟩, .string ⟨#[93]⟩, .string ⟨#[125]⟩, .string ⟨#[58, 44]⟩, .string ⟨#[91, 122]⟩] 9)
          go_upto_region 10 with fail
          refine (hLw _).mono ?_
          rintro e w2 ⟨rfl, rfl⟩
          clear HCK hLw
          go_upto_region 10 with fail
          go_wp2_with fail
          generalize w1.alloc (.cells #[.string ⟨#[]⟩, .string ⟨#[10, 107, 58, 32, 118]⟩, .string ⟨#[32, 35, 32, 99]⟩, .string ⟨#[58, 32, 118]⟩, .string ⟨#[32, 9, 35, 32, 100, 10]⟩, .string ⟨#[44, 32, 121]⟩, .string ⟨#[93]⟩, .string ⟨#[125]⟩, .string ⟨#[58, 44]⟩, .string ⟨#[91, 122]⟩] 9) = W at *
          refine (hRd _).mono ?_
          rintro e w2 ⟨rfl, hb2⟩
          have hA := hA.step hb2
          clear hb2 hRd ck
          go_wp2_with fail
          refine (hWd _).mono ?_
          rintro e w3 ⟨rfl, hb3⟩
          have hA := hA.step hb3
          go_wp2_with fail
          go_roundg (2 - (i + 1))
          case measure => omega
          case rel => exact ⟨i + 1, wd, by omega, rfl, rfl, by go_num, by omega, hA⟩
    · obtain rfl : i = 2 := by omega
      clear HCK HB
      go_wp2_with fail
      refine (awake23_c _ hA.env).mono ?_
      rintro e w1 ⟨rfl, hb⟩
      go_wp2_with fail
      go_ret
      exact ⟨rfl, (hA.step hb).below⟩
end Go.Proofs.YtjfgcbikdibjeaaGreatDoor
