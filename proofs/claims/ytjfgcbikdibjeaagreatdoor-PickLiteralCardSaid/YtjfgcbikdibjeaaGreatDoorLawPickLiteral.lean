/- PickLiteral: what may stand in rows is read from them as it is, however far in they are. -/
import Derived.Test.YtjfgcbikdibjeaaGreatDoorLawPickLit0
import Derived.Test.YtjfgcbikdibjeaaGreatDoorWWord
import Derived.OpenShut
namespace Go.Proofs.YtjfgcbikdibjeaaGreatDoor
open Go.RowKit U Go.Proofs

theorem len_at4 {xs : List (List UInt8)} {m : Nat} (h : ∀ x ∈ xs, x.length ≤ m) (k : Nat) : (xs.getD k []).length ≤ m := by
  rw [List.getD_eq_getElem?_getD]
  cases hk : xs[k]? with
  | none => exact Nat.zero_le _
  | some x => exact h x (List.mem_of_getElem? hk)
def tabL : List (List UInt8) := [[97], [10], [10], [32, 32], [35, 32, 98], [9], [45, 32, 99], [10, 10], [100, 58, 32, 101], [32]]
set_option maxRecDepth 100000 in
set_option maxHeartbeats 8000000 in
theorem pickLiteral_c (l : List UInt8) (n : Int) (ks : List Int) (kv : Value) (inn : Int) (bh : Bool) (w : World) (hE : Env w) (_hl : l.length ≤ 9223372036854775807) (_n1 : -9223372036854775808 ≤ n) (_n2 : n ≤ 9223372036854775807)
    (hk : Sl w kv (ks.map fun x : Int => Value.int .i64 x)) (_hkw : ∀ x ∈ ks, (Lit.int .i64 x).wf = true) (_hkl : ks.length ≤ 9223372036854775807) (_i1 : -9223372036854775808 ≤ inn) (_i2 : inn ≤ 9223372036854775807) :
    Calls Tryz.prog 10 #[.string ⟨l.toArray⟩, .int .i64 n, kv, .int .i64 inn, .bool bh] w fun e w' => e = .returned (.bool true) ∧ Below w.heap.size w w' := by
  have hA := At.refl hE
  obtain ⟨ka, kc, rfl, hkc⟩ := Sl.ints (k := .i64) hk
  have HKC := Lib.hid hkc
  clear hkc hk
  by_cases h80 : 80 < l.length
  · go_enter Tryz.func10, Tryz.ntmps10
    go_wp2_with fail
    refine (awake23_c _ hE).mono ?_
    rintro e w1 ⟨rfl, hb⟩
    go_wp2_with fail
    go_ret
    exact ⟨rfl, hb⟩
  by_cases h20 : 20 < ks.length
  · go_enter Tryz.func10, Tryz.ntmps10
    go_wp2_with fail
    refine (awake23_c _ hE).mono ?_
    rintro e w1 ⟨rfl, hb⟩
    go_wp2_with fail
    go_ret
    exact ⟨rfl, hb⟩
  have hl80 : l.length ≤ 100 := by omega
  have hk20 : ks.length ≤ 20 := by omega
  clear h20 _hkl
  have hWo := fun w => word_c n w
  have hwo := wordOf_len n
  generalize wordOf n = wo at *
  go_enter Tryz.func10, Tryz.ntmps10
  go_wp2_with fail
  refine (hWo _).mono ?_
  rintro e w1 ⟨rfl, hb1⟩
  have hA1 := hA.step hb1
  clear hA hb1 hWo h80 _hl
  go_wp2_with fail
  go_loopg [11, 12] ks.length (fun gk s11 s12 wr => ∃ (i : Nat) (t : List UInt8), i ≤ ks.length ∧ gk = ks.length - i ∧ s11 = .string ⟨t.toArray⟩ ∧ s12 = .int .i64 i ∧ t.length ≤ 3 + 4 * i ∧ At w wr)
  case atStart => exact ⟨0, wo, Nat.zero_le _, rfl, rfl, rfl, by omega, hA1⟩
  case round =>
    clear hA1
    obtain ⟨i, t, hi, hgk, rfl, rfl, htl, hA⟩ := hrel
    by_cases hlt : i < ks.length
    · obtain ⟨b, off, rfl, hbl, hcl⟩ := HKC.out i hlt
      obtain ⟨y, hy⟩ : ∃ y, ks[i]'hlt = y := ⟨_, rfl⟩
      rw [hy] at hcl
      clear hy
      have hL := fun w => low_c y 10 w (by omega) (by omega)
      have h13 := low_lt y 10 (by omega)
      generalize low y 10 = c2 at *
      have hlit := lit_at (xs := tabL) (k := c2) h13
      have hx1 : (tabL.getD c2 ([] : List UInt8)).length ≤ 4 := len_at4 (by decide) c2
      generalize tabL.getD c2 ([] : List UInt8) = z at *
      have ck := lit_cell wr 9 (strs tabL) c2 _ hlit
      change (wr.alloc (.cells #[.string ⟨#[97]⟩, .string ⟨#[10]⟩, .string ⟨#[10]⟩, .string ⟨#[32, 32]⟩, .string ⟨#[35, 32, 98]⟩, .string ⟨#[9]⟩, .string ⟨#[45, 32, 99]⟩, .string ⟨#[10, 10]⟩, .string ⟨#[100, 58, 32, 101]⟩, .string ⟨#[32]⟩] 9)).cell? ⟨wr.heap.size, c2, none⟩ = _ at ck
      have hA2 := hA.alloc (.cells #[.string ⟨#[97]⟩, .string ⟨#[10]⟩, .string ⟨#[10]⟩, .string ⟨#[32, 32]⟩, .string ⟨#[35, 32, 98]⟩, .string ⟨#[9]⟩, .string ⟨#[45, 32, 99]⟩, .string ⟨#[10, 10]⟩, .string ⟨#[100, 58, 32, 101]⟩, .string ⟨#[32]⟩] 9)
      have hcl2 := (hA2.below.cell (p := ⟨b, off + i, none⟩) hbl).trans hcl
      clear hcl hbl
      clear hlit
      go_wp2_with fail
      refine (hL _).mono ?_
      rintro e w1 ⟨rfl, rfl⟩
      go_wp2_with fail
      go_roundg (ks.length - (i + 1))
      case measure => omega
      case rel => exact ⟨i + 1, t ++ z, by omega, rfl, rfl, by go_num, by rw [List.length_append]; omega, hA2⟩
    · obtain rfl : i = ks.length := by omega
      have ht80 : t.length ≤ 100 := by omega
      clear htl hgk hi HKC _hkw
      have hLi := fun w => low_c inn 9 w (by omega) (by omega)
      have hi9 := low_lt inn 9 (by omega)
      generalize low inn 9 = x0 at *
      obtain ⟨x, hx⟩ : ∃ x, x0 + 1 = x := ⟨_, rfl⟩
      have gx : IntKind.i64.wrap (1 + (x0 : Int)) = (x : Int) := by rw [IntWalk.i64_in _ (by omega)]; omega
      have hx1 : 1 ≤ x := by omega
      have hx9 : x ≤ 9 := by omega
      clear hx
      go_wp2_with fail
      go_loopg [0, 11, 13] 3 (fun gk s0 s11 s13 wr => ∃ (j : Nat) (a t : List UInt8), j ≤ 3 ∧ gk = 3 - j ∧ s0 = .string ⟨a.toArray⟩ ∧ s11 = .string ⟨t.toArray⟩ ∧ s13 = .int .i64 j ∧ a.length ≤ 100 ∧ t.length ≤ 100 ∧ At w wr)
      case atStart => exact ⟨0, l, t, Nat.zero_le _, rfl, rfl, rfl, rfl, hl80, ht80, hA⟩
      case round =>
        clear hA hl80 ht80
        obtain ⟨j, a, t, hj, hgk, rfl, rfl, rfl, ha, ht, hA⟩ := hrel
        by_cases hlt : j < 3
        · have hWd := fun w => pword_c n w
          have hwl := pword_len n
          generalize pword n = wd at *
          have hLt := fun w hE => literal_c a w hE (by omega)
          have hPl := fun w hE h => plit_c a x bh w hE ha hx1 hx9 h
          cases hlm : literalM a with
          | false =>
            rw [hlm] at hLt
            clear hPl hlm
            go_wp2_with fail
            refine (hLt _ hA.env).mono ?_
            rintro e w2 ⟨rfl, hb2⟩
            have hA := hA.step hb2
            go_wp2_with fail
            refine (hWd _).mono ?_
            rintro e w3 ⟨rfl, hb3⟩
            have hA := hA.step hb3
            go_wp2_with fail
            go_roundg (3 - (j + 1))
            case measure => omega
            case rel => exact ⟨j + 1, t, wd, by omega, rfl, rfl, rfl, by go_num, ht, by omega, hA⟩
          | true =>
            rw [hlm] at hLt
            have hPl := fun w hE => hPl w hE hlm
            clear hlm
            go_wp2_with fail
            refine (hLt _ hA.env).mono ?_
            rintro e w2 ⟨rfl, hb2⟩
            have hA := hA.step hb2
            go_wp2_with fail
            refine (hLi _).mono ?_
            rintro e w3 ⟨rfl, rfl⟩
            go_wp2_with fail
            refine (hPl _ hA.env).mono ?_
            rintro e w3 ⟨rfl, hb3⟩
            have hA := hA.step hb3
            go_wp2_with fail
            refine (hWd _).mono ?_
            rintro e w4 ⟨rfl, hb4⟩
            have hA := hA.step hb4
            go_wp2_with fail
            go_roundg (3 - (j + 1))
            case measure => omega
            case rel => exact ⟨j + 1, t, wd, by omega, rfl, rfl, rfl, by go_num, ht, by omega, hA⟩
        · obtain rfl : j = 3 := by omega
          go_wp2_with fail
          refine (awake23_c _ hA.env).mono ?_
          rintro e w1 ⟨rfl, hb⟩
          go_wp2_with fail
          go_ret
          exact ⟨rfl, (hA.step hb).below⟩
end Go.Proofs.YtjfgcbikdibjeaaGreatDoor
