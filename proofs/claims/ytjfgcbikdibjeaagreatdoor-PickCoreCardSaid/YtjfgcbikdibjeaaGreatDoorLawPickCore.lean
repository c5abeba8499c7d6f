/- PickCore: what looks like anything but a text may stand plain. -/
import Derived.Test.YtjfgcbikdibjeaaGreatDoorLawPick0
import Derived.Test.YtjfgcbikdibjeaaGreatDoorWTag
import Derived.Test.YtjfgcbikdibjeaaGreatDoorPPick4
import Derived.OpenShut
namespace Go.Proofs.YtjfgcbikdibjeaaGreatDoor
open Go.RowKit U Go.Proofs

theorem len_at {xs : List (List UInt8)} {m : Nat} (h : ∀ x ∈ xs, x.length ≤ m) (k : Nat) : (xs.getD k []).length ≤ m := by
  rw [List.getD_eq_getElem?_getD]
  cases hk : xs[k]? with
  | none => exact Nat.zero_le _
  | some x => exact h x (List.mem_of_getElem? hk)
set_option maxRecDepth 100000 in
set_option maxHeartbeats 8000000 in
theorem pickCore_c (l : List UInt8) (n : Int) (ks : List Int) (kv : Value) (w : World) (hE : Env w) (_hl : l.length ≤ 9223372036854775807) (_n1 : -9223372036854775808 ≤ n) (_n2 : n ≤ 9223372036854775807)
    (hk : Sl w kv (ks.map fun x : Int => Value.int .i64 x)) (_hkw : ∀ x ∈ ks, (Lit.int .i64 x).wf = true) (_hkl : ks.length ≤ 9223372036854775807) :
    Calls Tryz.prog 5 #[.string ⟨l.toArray⟩, .int .i64 n, kv] w fun e w' => e = .returned (.bool true) ∧ Below w.heap.size w w' := by
  have hA := At.refl hE
  obtain ⟨ka, kc, rfl, hkc⟩ := Sl.ints (k := .i64) hk
  have HKC := Lib.hid hkc
  clear hkc hk
  by_cases h80 : 80 < l.length
  · go_enter Tryz.func5, Tryz.ntmps5
    go_wp2_with fail
    refine (awake23_c _ hE).mono ?_
    rintro e w1 ⟨rfl, hb⟩
    go_wp2_with fail
    go_ret
    exact ⟨rfl, hb⟩
  by_cases h20 : 20 < ks.length
  · go_enter Tryz.func5, Tryz.ntmps5
    go_wp2_with fail
    refine (awake23_c _ hE).mono ?_
    rintro e w1 ⟨rfl, hb⟩
    go_wp2_with fail
    go_ret
    exact ⟨rfl, hb⟩
  have hl80 : l.length ≤ 80 := by omega
  have hk20 : ks.length ≤ 20 := by omega
  clear h80 _hl h20 _hkl
  have hL := fun w => low_c n 6 w (by omega) (by omega)
  have h6 := low_lt n 6 (by omega)
  generalize low n 6 = c at *
  have hlit := lit_at (xs := [[], [43], [45], [48, 120], [48, 111], [46]]) (k := c) h6
  have hx2 : ([[], [43], [45], [48, 120], [48, 111], [46]].getD c ([] : List UInt8)).length ≤ 2 := len_at (by decide) c
  generalize [[], [43], [45], [48, 120], [48, 111], [46]].getD c ([] : List UInt8) = x at *
  have ck := lit_cell w 9 (strs [[], [43], [45], [48, 120], [48, 111], [46]]) c _ hlit
  change (w.alloc (.cells #[.string ⟨#[]⟩, .string ⟨#[43]⟩, .string ⟨#[45]⟩, .string ⟨#[48, 120]⟩, .string ⟨#[48, 111]⟩, .string ⟨#[46]⟩] 9)).cell? ⟨w.heap.size, c, none⟩ = _ at ck
  have hA2 := hA.alloc (.cells #[.string ⟨#[]⟩, .string ⟨#[43]⟩, .string ⟨#[45]⟩, .string ⟨#[48, 120]⟩, .string ⟨#[48, 111]⟩, .string ⟨#[46]⟩] 9)
  clear hlit
  go_enter Tryz.func5, Tryz.ntmps5
  go_wp2_with fail
  refine (hL _).mono ?_
  rintro e w1 ⟨rfl, rfl⟩
  clear hA
  generalize w.alloc (.cells #[.string ⟨#[]⟩, .string ⟨#[43]⟩, .string ⟨#[45]⟩, .string ⟨#[48, 120]⟩, .string ⟨#[48, 111]⟩, .string ⟨#[46]⟩] 9) = W1 at *
  go_wp2_with fail
  clear ck hL
  go_loopg [7, 8] ks.length (fun gk s7 s8 wr => ∃ (i : Nat) (t : List UInt8), i ≤ ks.length ∧ gk = ks.length - i ∧ s7 = .string ⟨t.toArray⟩ ∧ s8 = .int .i64 i ∧ t.length ≤ 2 + i ∧ At w wr)
  case atStart => exact ⟨0, x, Nat.zero_le _, rfl, rfl, rfl, hx2, hA2⟩
  case round =>
    clear hA2
    obtain ⟨i, t, hi, hgk, rfl, rfl, htl, hA⟩ := hrel
    by_cases hlt : i < ks.length
    · obtain ⟨b, off, rfl, hbl, hcl⟩ := HKC.out i hlt
      obtain ⟨y, hy⟩ : ∃ y, ks[i]'hlt = y := ⟨_, rfl⟩
      rw [hy] at hcl
      clear hy
      have hL := fun w => low_c y 13 w (by omega) (by omega)
      have h13 := low_lt y 13 (by omega)
      generalize low y 13 = c2 at *
      have hlit := lit_at (xs := [[48], [49], [55], [57], [97], [70], [46], [101], [45], [43], [69], [56], [50]]) (k := c2) h13
      have hx1 : ([[48], [49], [55], [57], [97], [70], [46], [101], [45], [43], [69], [56], [50]].getD c2 ([] : List UInt8)).length ≤ 1 := len_at (by decide) c2
      generalize [[48], [49], [55], [57], [97], [70], [46], [101], [45], [43], [69], [56], [50]].getD c2 ([] : List UInt8) = z at *
      have ck := lit_cell wr 9 (strs [[48], [49], [55], [57], [97], [70], [46], [101], [45], [43], [69], [56], [50]]) c2 _ hlit
      change (wr.alloc (.cells #[.string ⟨#[48]⟩, .string ⟨#[49]⟩, .string ⟨#[55]⟩, .string ⟨#[57]⟩, .string ⟨#[97]⟩, .string ⟨#[70]⟩, .string ⟨#[46]⟩, .string ⟨#[101]⟩, .string ⟨#[45]⟩, .string ⟨#[43]⟩, .string ⟨#[69]⟩, .string ⟨#[56]⟩, .string ⟨#[50]⟩] 9)).cell? ⟨wr.heap.size, c2, none⟩ = _ at ck
      have hA2 := hA.alloc (.cells #[.string ⟨#[48]⟩, .string ⟨#[49]⟩, .string ⟨#[55]⟩, .string ⟨#[57]⟩, .string ⟨#[97]⟩, .string ⟨#[70]⟩, .string ⟨#[46]⟩, .string ⟨#[101]⟩, .string ⟨#[45]⟩, .string ⟨#[43]⟩, .string ⟨#[69]⟩, .string ⟨#[56]⟩, .string ⟨#[50]⟩] 9)
      have hcl2 := (hA2.below.cell (p := ⟨b, off + i, none⟩) hbl).trans hcl
      clear hcl hbl
      clear hlit
      go_wp2_with fail
      refine (hL _).mono ?_
      rintro e w1 ⟨rfl, rfl⟩
      go_wp2_with fail
      go_roundg (ks.length - (i + 1))
      case measure => omega
      case rel => exact ⟨i + 1, t ++ z, by omega, rfl, rfl, by go_num, by rw [List.length_append]; omega, hA2⟩
    · obtain rfl : i = ks.length := by omega
      have ht80 : t.length ≤ 80 := by omega
      clear htl hgk hi HKC _hkw
      go_wp2_with fail
      go_loopg [0, 7, 9] 3 (fun gk s0 s7 s9 wr => ∃ (j : Nat) (a t : List UInt8), j ≤ 3 ∧ gk = 3 - j ∧ s0 = .string ⟨a.toArray⟩ ∧ s7 = .string ⟨t.toArray⟩ ∧ s9 = .int .i64 j ∧ a.length ≤ 80 ∧ t.length ≤ 80 ∧ At w wr)
      case atStart => exact ⟨0, l, t, Nat.zero_le _, rfl, rfl, rfl, rfl, hl80, ht80, hA⟩
      case round =>
        clear hA hl80 ht80
        obtain ⟨j, a, t, hj, hgk, rfl, rfl, rfl, ha, ht, hA⟩ := hrel
        by_cases hlt : j < 3
        · have hWd := fun w => pword_c n w
          have hwl := pword_len n
          generalize pword n = wd at *
          cases a with
          | nil =>
            go_wp2_with fail
            refine (hWd _).mono ?_
            rintro e w3 ⟨rfl, hb3⟩
            have hA := hA.step hb3
            go_wp2_with fail
            go_roundg (3 - (j + 1))
            case measure => omega
            case rel => exact ⟨j + 1, t, wd, by omega, rfl, rfl, rfl, by go_num, ht, by omega, hA⟩
          | cons b a' =>
            have hcp := core_plain (s := b :: a') (by simp)
            have hPT := fun w hE => pplain_c (b :: a') true w hE (by omega)
            have hPF := fun w hE => pplain_c (b :: a') false w hE (by omega)
            have hT := fun w => tag_c (b :: a') w (by omega)
            have hLg := fun w => coreLong_c [115, 116, 114] w (by decide)
            have hCw : (longOf (coreP (b :: a')) == longOf [115, 116, 114]) = decide (coreP (b :: a') = wStr) := by
              rw [Bool.eq_iff_iff, beq_iff_eq, decide_eq_true_iff]
              unfold longOf wStr
              exact ⟨fun h => List.append_cancel_left h, fun h => by rw [h]⟩
            have hpt : decide (coreP (b :: a') = wStr) = false → plainM (b :: a') true = true ∧ plainM (b :: a') false = true := fun h => ⟨hcp (of_decide_eq_false h) true, hcp (of_decide_eq_false h) false⟩
            rw [← hCw] at hpt
            clear hcp hCw
            generalize longOf (coreP (b :: a')) = ct at *
            generalize longOf [115, 116, 114] = lg at *
            generalize plainM (b :: a') true = pt at *
            generalize plainM (b :: a') false = pf at *
            obtain ⟨CE, hce⟩ : ∃ CE, (ct == lg) = CE := ⟨_, rfl⟩
            rw [hce] at hpt
            cases CE with
            | true =>
              clear hpt hPT hPF
              go_wp2_with fail
              refine (hT _).mono ?_
              rintro e w1 ⟨rfl, hb1⟩
              have hA := hA.step hb1
              go_wp2_with fail
              refine (hLg _).mono ?_
              rintro e w2 ⟨rfl, rfl⟩
              go_wp2_with fail
              refine (hWd _).mono ?_
              rintro e w3 ⟨rfl, hb3⟩
              have hA := hA.step hb3
              go_wp2_with fail
              go_roundg (3 - (j + 1))
              case measure => omega
              case rel => exact ⟨j + 1, t, wd, by omega, rfl, rfl, rfl, by go_num, ht, by omega, hA⟩
            | false =>
              obtain ⟨rfl, rfl⟩ := hpt rfl
              clear hpt
              go_wp2_with fail
              refine (hT _).mono ?_
              rintro e w1 ⟨rfl, hb1⟩
              have hA := hA.step hb1
              go_wp2_with fail
              refine (hLg _).mono ?_
              rintro e w2 ⟨rfl, rfl⟩
              go_wp2_with fail
              refine (hPF _ hA.env).mono ?_
              rintro e w2 ⟨rfl, hb2⟩
              have hA := hA.step hb2
              go_wp2_with fail
              refine (hPT _ hA.env).mono ?_
              rintro e w2 ⟨rfl, hb2⟩
              have hA := hA.step hb2
              go_wp2_with fail
              refine (hWd _).mono ?_
              rintro e w3 ⟨rfl, hb3⟩
              have hA := hA.step hb3
              go_wp2_with fail
              go_roundg (3 - (j + 1))
              case measure => omega
              case rel => exact ⟨j + 1, t, wd, by omega, rfl, rfl, rfl, by go_num, ht, by omega, hA⟩
        · obtain rfl : j = 3 := by omega
          go_wp2_with fail
          refine (awake23_c _ hA.env).mono ?_
          rintro e w1 ⟨rfl, hb⟩
          go_wp2_with fail
          go_ret
          exact ⟨rfl, (hA.step hb).below⟩
end Go.Proofs.YtjfgcbikdibjeaaGreatDoor
