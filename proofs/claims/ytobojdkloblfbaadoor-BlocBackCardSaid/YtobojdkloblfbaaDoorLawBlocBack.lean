/- The walk of bosketlaw13.BlocBack. -/
import Derived.Test.YtobojdkloblfbaaDoorLawBloc0
import Derived.Test.YtobojdkloblfbaaDoorLits
import Derived.Test.YtobojdkloblfbaaDoorWWord
import Derived.Test.YtobojdkloblfbaaDoorPBloc8
import Derived.Deep.RegionHeld3
namespace Go.Proofs.YtobojdkloblfbaaDoor
open Go.RowKit U Go.Proofs

attribute [local go_sem] ite_min' ite_max'
set_option maxRecDepth 100000 in
set_option maxHeartbeats 1000000 in
theorem lfeeds_c (n : Nat) (w : World) (hn : n ≤ 1000000) : Calls Tryd.prog 32 #[.int .i64 n] w fun e w' => e = .returned (.string ⟨(List.replicate n 10).toArray⟩) ∧ w = w' := by
  go_enter Tryd.func32, Tryd.ntmps32
  go_wp2_with fail
  go_loop [3, 4] (fun s i => ∃ (k : Nat) (t : List UInt8), k ≤ n ∧ s = .string ⟨t.toArray⟩ ∧ t.length = k ∧ Hid (t = List.replicate k 10) ∧ i = .int .i64 k) (fun _ i => n - (intOf i).toNat)
  case atStart => exact ⟨0, [], Nat.zero_le _, rfl, rfl, Lib.hid rfl, rfl⟩
  case round =>
    obtain ⟨k, t, hk, rfl, htk, HT, rfl⟩ := hrel
    by_cases hlt : k < n
    · go_wp2_with fail
      go_round
      case rel => exact ⟨k + 1, t ++ [10], by omega, rfl, by simp; omega, Lib.hid (by rw [HT.out, List.replicate_succ']), by go_num⟩
      case measure => simp [intOf]; omega
    · obtain rfl : k = n := by omega
      go_wp2_with fail
      go_ret
      exact ⟨ret_str (by rw [HT.out]), rfl⟩
theorem word_cut2 : ∀ x ∈ wordList, byt x 0 ≠ 32 := by decide
/-- A row: how far in, the word; how many blank rows behind it. -/
def inB (is : List Int) (k : Nat) : Nat := if k < is.length ∧ 0 < k then low (is.getD k 0) 3 else 0
def gapB (gs : List Int) (k : Nat) : Nat := if k < gs.length then low (gs.getD k 0) 3 else 0
def rowB (ws is gs : List Int) (k : Nat) : List UInt8 × Nat := (List.replicate (inB is k) 32 ++ wordOf (ws.getD k 0), gapB gs k)
theorem inB_lt (is : List Int) (k : Nat) : inB is k < 3 := by
  unfold inB
  split
  · exact low_lt _ 3 (by omega)
  · omega
theorem gapB_lt (gs : List Int) (k : Nat) : gapB gs k < 3 := by
  unfold gapB
  split
  · exact low_lt _ 3 (by omega)
  · omega
theorem rowB_ok (ws is gs : List Int) (k : Nat) : (rowB ws is gs k).1 ≠ [] ∧ ∀ b ∈ (rowB ws is gs k).1, b ≠ 10 := by
  have h := word_all _ (wordOf_mem (ws.getD k 0))
  have h2 := inB_lt is k
  unfold rowB
  simp only []
  generalize wordOf (ws.getD k 0) = wd at *
  refine ⟨fun e => ?_, fun b hb => ?_⟩
  · have h3 : 1 ≤ (List.replicate (inB is k) (32 : UInt8) ++ wd).length := by rw [List.length_append]; omega
    rw [e] at h3
    simp at h3
  · rcases List.mem_append.1 hb with hb | hb
    · rw [List.eq_of_mem_replicate hb]; decide
    · exact h.2.2.1 b hb
theorem rowB_first (ws is gs : List Int) : byt (rowB ws is gs 0).1 0 ≠ 32 := by
  have e : (rowB ws is gs 0).1 = wordOf (ws.getD 0 0) := by unfold rowB inB; simp
  rw [e]
  exact word_cut2 _ (wordOf_mem _)
/-- What stands so far. -/
def wantB (f : Nat → List UInt8 × Nat) (n k kk : Nat) : List UInt8 := if k = n then wantU f (n - 1) kk else flatU (rowsU f k)
/-- Since a world. -/
def NodeR (w0 W w : World) : Prop := At w0 w ∧ Below W.heap.size W w
theorem NodeR.step {w0 W w w' : World} (h : NodeR w0 W w) (hb : Below w.heap.size w w') : NodeR w0 W w' := ⟨h.1.step hb, h.2.trans (hb.mono h.2.size)⟩
theorem NodeR.drew {w0 W w : World} (h : NodeR w0 W w) : NodeR w0 W w.drew := ⟨h.1.drewN 1, below_drewN h.2 1⟩
theorem keepR {w0 W w : World} {p : Addr} {v : Value} (h : NodeR w0 W w) (HK : Hid (p.block < W.heap.size ∧ W.cell? p = some v)) : NodeR w0 W w ∧ w.cell? p = some v :=
  ⟨h, (h.2.cell (p := p) HK.out.1).trans HK.out.2⟩
set_option maxRecDepth 100000 in
set_option maxHeartbeats 8000000 in
theorem blocBack_c (ws : List Int) (wv : Value) (is : List Int) (iv : Value) (gs : List Int) (gv : Value) (fr : Int) (wh : Int) (w : World) (hE : Env w)
    (hw : Sl w wv (ws.map fun x : Int => Value.int .i64 x)) (_hww : ∀ x ∈ ws, (Lit.int .i64 x).wf = true) (_hwl : ws.length ≤ 9223372036854775807)
    (hi : Sl w iv (is.map fun x : Int => Value.int .i64 x)) (_hiw : ∀ x ∈ is, (Lit.int .i64 x).wf = true) (_hil : is.length ≤ 9223372036854775807)
    (hg : Sl w gv (gs.map fun x : Int => Value.int .i64 x)) (_hgw : ∀ x ∈ gs, (Lit.int .i64 x).wf = true) (_hgl : gs.length ≤ 9223372036854775807)
    (_f1 : -9223372036854775808 ≤ fr) (_f2 : fr ≤ 9223372036854775807) (_h1 : -9223372036854775808 ≤ wh) (_h2 : wh ≤ 9223372036854775807) :
    Calls Tryd.prog 11 #[wv, iv, gv, .int .i64 fr, .int .i64 wh] w fun e w' => e = .returned (.bool true) ∧ Below w.heap.size w w' := by
  have hA := At.refl hE
  obtain ⟨wa, wc', rfl, hwc⟩ := Sl.ints (k := .i64) hw
  obtain ⟨ia, ic', rfl, hic⟩ := Sl.ints (k := .i64) hi
  obtain ⟨ga, gc', rfl, hgc⟩ := Sl.ints (k := .i64) hg
  have HWC := Lib.hid hwc
  have HIC := Lib.hid hic
  have HGC := Lib.hid hgc
  clear hwc hic hgc hw hi hg
  by_cases hn1 : ws.length < 1
  · go_enter Tryd.func11, Tryd.ntmps11
    go_wp2_with (go_at_call 34; refine (awake13_c _).mono ?_; rintro e w1 ⟨rfl, hb⟩; have hA := hA.step hb; clear hb)
    go_ret
    exact ⟨rfl, hA.below⟩
  by_cases hn8 : 8 < ws.length
  · go_enter Tryd.func11, Tryd.ntmps11
    go_wp2_with (go_at_call 34; refine (awake13_c _).mono ?_; rintro e w1 ⟨rfl, hb⟩; have hA := hA.step hb; clear hb)
    go_ret
    exact ⟨rfl, hA.below⟩
  have hn : 1 ≤ ws.length ∧ ws.length ≤ 8 := by omega
  have gn1 : decide ((ws.length : Int) < 1) = false := decide_eq_false (by omega)
  have gn8 : decide ((8 : Int) < (ws.length : Int)) = false := decide_eq_false (by omega)
  have hLx := fun w => lit_low fr 4 (low fr 4) w (by omega) (by omega) rfl
  have hLk := fun w => lit_low wh 3 (low wh 3) w (by omega) (by omega) rfl
  have hx := low_lt fr 4 (by omega)
  have hk := low_lt wh 3 (by omega)
  generalize low fr 4 = x0 at *
  generalize low wh 3 = kk at *
  obtain ⟨hd, hhd⟩ : ∃ hd, hBk kk = hd := ⟨_, rfl⟩
  have hdl : hd.length ≤ 2 := by rw [← hhd]; unfold hBk; split; simp; split <;> simp
  have hlit : ([[124], [124, 45], [124, 43]] : List (List UInt8)).getD kk [] = hd := by
    rw [← hhd]
    rcases (show kk = 0 ∨ kk = 1 ∨ kk = 2 by omega) with rfl | rfl | rfl <;> rfl
  have ck := lit_cell w 9 (strs [[124], [124, 45], [124, 43]]) kk _ (lit_at (xs := [[124], [124, 45], [124, 43]]) hk)
  rw [hlit] at ck
  change (w.alloc (.cells #[.string ⟨#[124]⟩, .string ⟨#[124, 45]⟩, .string ⟨#[124, 43]⟩] 9)).cell? ⟨w.heap.size, kk, none⟩ = _ at ck
  have hA1 := hA.alloc (.cells #[.string ⟨#[124]⟩, .string ⟨#[124, 45]⟩, .string ⟨#[124, 43]⟩] 9)
  have hk0 : (0 : Int) ≤ (kk : Int) := by omega
  have hk3 : (kk : Int) < 3 := by omega
  have HHD := Lib.hid hhd
  clear hhd hlit hn1 hn8
  go_enter Tryd.func11, Tryd.ntmps11
  go_wp2_with fail
  refine (hLx _).mono ?_
  rintro e w1 ⟨rfl, hw1⟩
  obtain rfl := hw1.symm
  go_wp2_with fail
  refine (hLk _).mono ?_
  rintro e w1 ⟨rfl, hw1⟩
  obtain rfl := hw1.symm
  go_upto_region 5 with fail
  go_upto_region 6 with fail
  generalize w.alloc (.cells #[.string ⟨#[124]⟩, .string ⟨#[124, 45]⟩, .string ⟨#[124, 43]⟩] 9) = w1 at *
  have hA := hA1
  clear hA1 ck hk0 hk3 hLx hLk
  obtain ⟨x, hxx⟩ : ∃ x, 1 + x0 = x := ⟨_, rfl⟩
  have hxi : 1 + (x0 : Int) = (x : Int) := by omega
  have hx4 : x ≤ 4 := by omega
  have hx1 : 1 ≤ x := by omega
  rw [hxi]
  clear hxi hxx
  obtain ⟨f, hf⟩ : ∃ f, rowB ws is gs = f := ⟨_, rfl⟩
  have hfo : ∀ i, (f i).1 ≠ [] ∧ ∀ b ∈ (f i).1, b ≠ 10 := fun i => by rw [← hf]; exact rowB_ok ws is gs i
  have hf0 : byt (f 0).1 0 ≠ 32 := by rw [← hf]; exact rowB_first ws is gs
  have HF := Lib.hid hf
  have HFO := Lib.hid (And.intro hfo hf0)
  clear hf hfo hf0
  go_wp2_with fail
  go_loopg [13, 14, 15] ws.length (fun gk s13 s14 s15 wr => ∃ (k : Nat) (t u : List UInt8), k ≤ ws.length ∧ gk = ws.length - k ∧ s15 = .int .i64 k ∧ s13 = .string ⟨t.toArray⟩ ∧ s14 = .string ⟨u.toArray⟩ ∧ t.length ≤ 4 + 20 * k ∧ u.length ≤ 20 * k ∧ Hid (t = hd ++ 10 :: linesR x (rowsU f k) ∧ u = wantB f ws.length k kk) ∧ At w wr)
  case atStart => exact ⟨0, _, [], Nat.zero_le _, rfl, rfl, rfl, rfl, by simp; omega, Nat.le_refl _, Lib.hid ⟨rfl, by unfold wantB; rw [if_neg (by omega)]; rfl⟩, hA⟩
  case round =>
    clear hA
    obtain ⟨k, t, u, hk', hgk, rfl, rfl, rfl, htl, hul, HT, hA⟩ := hrel
    by_cases hlt : k < ws.length
    · obtain ⟨b0, off, rfl, hb0, hck0⟩ := HWC.out k hlt
      have hgd : ws.getD k 0 = ws[k]'hlt := by simp [hlt]
      obtain ⟨y, hy⟩ : ∃ y, ws[k]'hlt = y := ⟨_, rfl⟩
      rw [hy] at hgd hck0
      have hfk : f k = (List.replicate (inB is k) 32 ++ wordOf y, gapB gs k) := by rw [← HF.out]; unfold rowB; rw [hgd]
      have hinl := inB_lt is k
      have hgpl := gapB_lt gs k
      obtain ⟨ii, hii⟩ : ∃ ii, inB is k = ii := ⟨_, rfl⟩
      obtain ⟨gg, hgg⟩ : ∃ gg, gapB gs k = gg := ⟨_, rfl⟩
      rw [hii, hgg] at hfk
      rw [hii] at hinl
      rw [hgg] at hgpl
      have HII := Lib.hid hii
      have HGG := Lib.hid hgg
      clear hii hgg hgd hy
      have HK : Hid ((⟨b0, off + k, none⟩ : Addr).block < w.heap.size ∧ w.cell? ⟨b0, off + k, none⟩ = some (.int .i64 y)) := Lib.hid ⟨hb0, hck0⟩
      clear hck0
      have HFK := Lib.hid hfk
      clear hfk
      go_upto_region 10 with fail
      obtain ⟨b1, hb1⟩ : ∃ b1, decide (k < is.length ∧ 0 < k) = b1 := ⟨_, rfl⟩
      have HB1 := Lib.hid hb1
      clear hb1
      go_cut [57] from 50 to 57 (fun s wx => s = .bool b1 ∧ wr = wx)
      case first =>
        have hb := HB1.out
        clear HB1 HII HGG HFK HT
        by_cases h1 : k < is.length
        · by_cases h0 : 0 < k
          · obtain rfl : b1 = true := by rw [← hb]; exact decide_eq_true ⟨h1, h0⟩
            clear hb
            go_wp2_with fail
            go_meet
            exact ⟨by simp <;> omega, rfl⟩
          · obtain rfl : b1 = false := by rw [← hb]; exact decide_eq_false (fun x => h0 x.2)
            clear hb
            go_wp2_with fail
            go_meet
            exact ⟨by simp <;> omega, rfl⟩
        · obtain rfl : b1 = false := by rw [← hb]; exact decide_eq_false (fun x => h1 x.1)
          have gd : decide ((k : Int) < (is.length : Int)) = false := decide_eq_false (by omega)
          clear hb
          go_wp2_with fail
          go_meet
          exact ⟨rfl, rfl⟩
      case rest =>
        obtain ⟨rfl, rfl⟩ := hcut
        go_upto_if 57 with fail
        go_cut [16] from 57 to 62 (fun s wx => s = .int .i64 ii ∧ wr = wx)
        case first =>
          have hb := HB1.out
          have hii := HII.out
          clear HB1 HII HGG HFK HT
          unfold inB at hii
          cases b1 with
          | true =>
            have hc := of_decide_eq_true hb
            rw [if_pos hc] at hii
            obtain ⟨b2, off2, rfl, hb2, hcb0⟩ := HIC.out k hc.1
            have hcb := (hA.below.cell (p := ⟨b2, off2 + k, none⟩) hb2).trans hcb0
            have hgd : is.getD k 0 = is[k]'hc.1 := by simp [hc.1]
            obtain ⟨z, hz⟩ : ∃ z, is[k]'hc.1 = z := ⟨_, rfl⟩
            rw [hz] at hcb hgd
            rw [hgd] at hii
            have hL := fun w => lit_low z 3 ii w (by omega) (by omega) hii
            have hlt2 := hc.1
            clear hcb0 hgd hz hb hc hii
            go_wp2_with fail
            refine (hL _).mono ?_
            rintro e w2 ⟨rfl, hw2⟩
            obtain rfl := hw2.symm
            go_wp2_with fail
            go_meet
            exact ⟨rfl, rfl⟩
          | false =>
            rw [if_neg (of_decide_eq_false hb)] at hii
            subst hii
            clear hb
            go_wp2_with fail
            go_meet
            exact ⟨rfl, rfl⟩
        case rest =>
          obtain ⟨rfl, rfl⟩ := hcut
          clear HB1 HII
          obtain ⟨b3, hb3⟩ : ∃ b3, decide (k < gs.length) = b3 := ⟨_, rfl⟩
          have HB3 := Lib.hid hb3
          clear hb3
          go_upto_region 12 with fail
          go_cut [66] from 63 to 66 (fun s wx => s = .bool b3 ∧ wr = wx)
          case first =>
            go_wp2_with fail
            go_meet
            exact ⟨by rw [HB3.out], rfl⟩
          case rest =>
            obtain ⟨rfl, rfl⟩ := hcut
            go_upto_if 66 with fail
            go_cut [17] from 66 to 71 (fun s wx => s = .int .i64 gg ∧ wr = wx)
            case first =>
              have hb := HB3.out
              have hgg := HGG.out
              clear HB3 HGG HFK HT
              unfold gapB at hgg
              cases b3 with
              | true =>
                have hc := of_decide_eq_true hb
                rw [if_pos hc] at hgg
                obtain ⟨b2, off2, rfl, hb2, hcb0⟩ := HGC.out k hc
                have hcb := (hA.below.cell (p := ⟨b2, off2 + k, none⟩) hb2).trans hcb0
                have hgd : gs.getD k 0 = gs[k]'hc := by simp [hc]
                obtain ⟨z, hz⟩ : ∃ z, gs[k]'hc = z := ⟨_, rfl⟩
                rw [hz] at hcb hgd
                rw [hgd] at hgg
                have hL := fun w => lit_low z 3 gg w (by omega) (by omega) hgg
                clear hcb0 hgd hz hb hgg
                go_wp2_with fail
                refine (hL _).mono ?_
                rintro e w2 ⟨rfl, hw2⟩
                obtain rfl := hw2.symm
                go_wp2_with fail
                go_meet
                exact ⟨rfl, rfl⟩
              | false =>
                rw [if_neg (of_decide_eq_false hb)] at hgg
                subst hgg
                clear hb
                go_wp2_with fail
                go_meet
                exact ⟨rfl, rfl⟩
            case rest =>
              obtain ⟨rfl, rfl⟩ := hcut
              clear HB3 HGG
              go_upto_region 14 with fail
              obtain ⟨wd, hwd⟩ : ∃ wd, wordOf y = wd := ⟨_, rfl⟩
              have hwdl := wordOf_len y
              have hWo := fun w => word_c y w
              rw [hwd] at hwdl hWo HFK
              have hrl : (List.replicate ii (32 : UInt8)).length ≤ 3 := by rw [List.length_replicate]; omega
              have hBl := fun w => blan_c ii w (by omega)
              obtain ⟨ri, hri⟩ : ∃ ri, List.replicate ii (32 : UInt8) = ri := ⟨_, rfl⟩
              rw [hri] at hrl hBl HFK
              have hs1 := fun (w : World) => run_string_add_sum (P := Tryd.prog) (w := w) ⟨ri.toArray⟩ ⟨wd.toArray⟩ (by show ri.length + wd.length ≤ _; omega)
              have HK2 : Hid ((⟨b0, off + k, none⟩ : Addr).block < wr.heap.size ∧ wr.cell? ⟨b0, off + k, none⟩ = some (.int .i64 y)) := Lib.hid ⟨Nat.lt_of_lt_of_le HK.out.1 hA.below.size, (hA.below.cell (p := ⟨b0, off + k, none⟩) HK.out.1).trans HK.out.2⟩
              have hS : NodeR w wr wr := ⟨hA, Below.refl _ _⟩
              have hBS := fun (w2 : World) (h : NodeR w wr w2) => (hBl w2).mono (R' := fun e w' => e = .returned (.string ⟨ri.toArray⟩) ∧ NodeR w wr w') (fun _ _ x => ⟨x.1, x.2 ▸ h⟩)
              have hWS := fun (w2 : World) (h : NodeR w wr w2) => (hWo w2).mono (R' := fun e w' => e = .returned (.string ⟨wd.toArray⟩) ∧ NodeR w wr w') (fun _ _ x => ⟨x.1, h.step x.2⟩)
              clear hwd hri hBl hWo hA
              go_cut [18] from 72 to 79 (fun s wx => s = .string ⟨(ri ++ wd).toArray⟩ ∧ NodeR w wr wx)
              case first =>
                have hk00 : (0 : Int) ≤ (k : Int) := by omega
                have hkws : (k : Int) < (ws.length : Int) := by omega
                clear HT HFK
                go_region_held3 (fun w2 => NodeR w wr w2 ∧ w2.cell? ⟨b0, off + k, none⟩ = some (.int .i64 y)) (first | exact keepR (by first | assumption | exact And.left (by assumption)) HK2 | exact keepR (NodeR.drew (by first | assumption | exact And.left (by assumption))) HK2) (first | (go_at_call 31; (with_reducible refine (hBS _ (by first | assumption | exact And.left (by assumption))).mono ?_); rintro e w5 ⟨rfl, hS5⟩) | (go_at_call 30; (with_reducible refine (hWS _ (by first | assumption | exact And.left (by assumption))).mono ?_); rintro e w5 ⟨rfl, hS5⟩))
                all_goals
                  go_wp2_with fail
                  go_meet
                  exact ⟨by simp, by first | assumption | exact And.left (by assumption)⟩
              case rest =>
                obtain ⟨rfl, hS2⟩ := hcut
                have hA := hS2.1
                obtain ⟨w4, hw4⟩ : ∃ w4, w4 = wc := ⟨_, rfl⟩
                subst hw4
                clear hS hS2 hBS hWS hs1 HK2 HK
                obtain ⟨tx, htx⟩ : ∃ tx, ri ++ wd = tx := ⟨_, rfl⟩
                have htxl : tx.length ≤ 6 := by rw [← htx, List.length_append]; omega
                rw [htx] at HFK ⊢
                clear htx
                have hB2 := fun w => blan_c x w (by omega)
                have hF2 := fun w => lfeeds_c gg w (by omega)
                have hrxl : (List.replicate x (32 : UInt8)).length ≤ 4 := by rw [List.length_replicate]; omega
                have hrgl : (List.replicate gg (10 : UInt8)).length = gg := List.length_replicate
                have hlin := rowsU_lines f x k (by rw [HFK.out]; simp only []; intro e; have := HFO.out.1 k; rw [HFK.out] at this; exact this.1 e)
                have hflt := rowsU_flat f k
                rw [HFK.out] at hlin hflt
                simp only [] at hlin hflt
                obtain ⟨rx, hrx⟩ : ∃ rx, List.replicate x (32 : UInt8) = rx := ⟨_, rfl⟩
                obtain ⟨rg, hrg⟩ : ∃ rg, List.replicate gg (10 : UInt8) = rg := ⟨_, rfl⟩
                rw [hrx] at hlin hB2 hrxl
                rw [hrg] at hlin hflt hF2 hrgl
                have htk := HT.out.1
                have huk := HT.out.2
                unfold wantB at huk
                rw [if_neg (by omega)] at huk
                have HT1 : Hid (t ++ (rx ++ (tx ++ 10 :: rg)) = hd ++ 10 :: linesR x (rowsU f (k + 1))) := Lib.hid (by rw [hlin, htk]; simp)
                have HU1 : Hid (u ++ (tx ++ 10 :: rg) = flatU (rowsU f (k + 1))) := Lib.hid (by rw [hflt, huk]; simp)
                obtain ⟨v, hv⟩ : ∃ v, u ++ (tx ++ 10 :: rg) = v := ⟨_, rfl⟩
                have hvl : v.length = u.length + tx.length + 1 + gg := by rw [← hv, List.length_append, List.length_append, List.length_cons, hrgl]; omega
                have HV := Lib.hid hv
                rw [hv] at HU1
                obtain ⟨v2, hv2⟩ : ∃ v2, wantB f ws.length (k + 1) kk = v2 := ⟨_, rfl⟩
                have hv2e : v2 = if k + 1 = ws.length ∧ kk < 2 then v.take (v.length - gg - 1) ++ (if kk = 0 then [10] else []) else v := by
                  rw [← hv2]
                  unfold wantB
                  by_cases hlast : k + 1 = ws.length
                  · rw [if_pos hlast, show ws.length - 1 = k by omega]
                    unfold wantU
                    rw [← HU1.out, HFK.out]
                    simp only []
                    by_cases hk2 : kk < 2
                    · simp only [hlast, hk2, and_self, if_true]
                    · rw [if_neg hk2, if_neg (fun x => hk2 x.2)]
                  · rw [if_neg hlast, if_neg (fun x => hlast x.1)]
                    exact HU1.out.symm
                have hv2l : v2.length ≤ v.length := by
                  rw [hv2e]
                  split
                  · rw [List.length_append, List.length_take]
                    split <;> simp <;> omega
                  · omega
                have HV2 := Lib.hid hv2
                have HV2E := Lib.hid hv2e
                clear hv hv2 hv2e hrx hrg hlin hflt htk huk HT HU1 HFK
                go_wp2_with fail
                refine (hB2 _).mono ?_
                rintro e w5 ⟨rfl, rfl⟩
                go_wp2_with fail
                refine (hF2 _).mono ?_
                rintro e w5 ⟨rfl, rfl⟩
                go_wp2_with fail
                refine (hF2 _).mono ?_
                rintro e w5 ⟨rfl, rfl⟩
                clear hB2 hF2
                obtain ⟨b5, hb5⟩ : ∃ b5, decide (k + 1 = ws.length ∧ kk < 2) = b5 := ⟨_, rfl⟩
                have HB5 := Lib.hid hb5
                clear hb5
                go_upto_region 17 with fail
                rw [HV.out]
                obtain ⟨t2, ht2⟩ : ∃ t2, t ++ (rx ++ (tx ++ 10 :: rg)) = t2 := ⟨_, rfl⟩
                have ht2l : t2.length ≤ 4 + 20 * (k + 1) := by rw [← ht2]; simp; omega
                rw [ht2] at HT1 ⊢
                clear ht2 HV
                go_cut [105] from 97 to 105 (fun s wx => s = .bool b5 ∧ w4 = wx)
                case first =>
                  have hb := HB5.out
                  clear HB5 HV2 HV2E HT1
                  by_cases h1 : k + 1 = ws.length
                  · have g1 : ((k : Int) == (ws.length : Int) - 1) = true := by rw [beq_iff_eq]; omega
                    by_cases h2 : kk < 2
                    · obtain rfl : b5 = true := by rw [← hb]; exact decide_eq_true ⟨h1, h2⟩
                      clear hb h1
                      go_wp2_with fail
                      go_meet
                      exact ⟨by simp <;> omega, rfl⟩
                    · obtain rfl : b5 = false := by rw [← hb]; exact decide_eq_false (fun x => h2 x.2)
                      clear hb h1
                      go_wp2_with fail
                      go_meet
                      exact ⟨by simp <;> omega, rfl⟩
                  · have g1 : ((k : Int) == (ws.length : Int) - 1) = false := by rw [beq_eq_false_iff_ne]; omega
                    obtain rfl : b5 = false := by rw [← hb]; exact decide_eq_false (fun x => h1 x.1)
                    clear hb h1
                    go_wp2_with fail
                    go_meet
                    exact ⟨rfl, rfl⟩
                case rest =>
                  obtain ⟨rfl, rfl⟩ := hcut
                  have hb := HB5.out
                  have hv := HV2E.out
                  have HTU : Hid (t2 = hd ++ 10 :: linesR x (rowsU f (k + 1)) ∧ v2 = wantB f ws.length (k + 1) kk) := Lib.hid ⟨HT1.out, HV2.out.symm⟩
                  clear HB5 HV2 HV2E HT1
                  cases b5 with
                  | true =>
                    have hc := of_decide_eq_true hb
                    rw [if_pos hc] at hv
                    have hi0 : (0 : Int) ≤ (v.length : Int) - gg - 1 := by omega
                    have hi1 : (v.length : Int) - gg - 1 ≤ (v.length : Int) := by clear hi0; omega
                    have hi2 : ((v.length : Int) - gg - 1).toNat = v.length - gg - 1 := by clear hi0 hi1; omega
                    have hkl := hc.1
                    by_cases h0 : kk = 0
                    · have g0 : ((kk : Int) == 0) = true := by rw [h0]; rfl
                      rw [if_pos h0] at hv
                      have HV3 := Lib.hid hv
                      clear hv hb hc h0 hkl
                      go_wp2_with fail
                      go_roundg (ws.length - (k + 1))
                      case measure => omega
                      case rel => exact ⟨k + 1, t2, v2, by omega, rfl, by go_num, rfl, by (rw [HV3.out]; simp; omega), ht2l, by omega, HTU, hA⟩
                    · have g0 : ((kk : Int) == 0) = false := by rw [beq_eq_false_iff_ne]; omega
                      rw [if_neg h0, List.append_nil] at hv
                      have HV3 := Lib.hid hv
                      clear hv hb hc h0 hkl
                      go_wp2_with fail
                      go_roundg (ws.length - (k + 1))
                      case measure => omega
                      case rel => exact ⟨k + 1, t2, v2, by omega, rfl, by go_num, rfl, by (rw [HV3.out]; simp; omega), ht2l, by omega, HTU, hA⟩
                  | false =>
                    rw [if_neg (of_decide_eq_false hb)] at hv
                    subst hv
                    clear hb
                    go_wp2_with fail
                    go_roundg (ws.length - (k + 1))
                    case measure => omega
                    case rel => exact ⟨k + 1, t2, v2, by omega, rfl, by go_num, rfl, rfl, ht2l, by omega, HTU, hA⟩
    · obtain rfl : k = ws.length := by omega
      clear hlt
      obtain ⟨m, hm⟩ : ∃ m, ws.length = m + 1 := ⟨ws.length - 1, by omega⟩
      obtain ⟨ht, hu⟩ := HT.out
      unfold wantB at hu
      rw [if_pos rfl, show ws.length - 1 = m by omega] at hu
      rw [hm] at ht
      have hl1 := back_law (f := f) (x := x) (m := m) (k := kk) (rest := []) hk hx1 HFO.out.1 HFO.out.2 (.inl rfl)
      have hl2 := back_law (f := f) (x := x) (m := m) (k := kk) (rest := [122, 10]) hk hx1 HFO.out.1 HFO.out.2 (.inr rfl)
      rw [HHD.out, ← hu] at hl1 hl2
      rw [List.append_nil, ← ht] at hl1
      rw [show hd ++ 10 :: (linesR x (rowsU f (m + 1)) ++ [122, 10]) = t ++ [122, 10] by rw [ht]; simp] at hl2
      rw [show hd.length + 1 + (linesR x (rowsU f (m + 1))).length = t.length by rw [ht]; simp; omega] at hl1 hl2
      have hr1 := fun w => blread_c t 0 0 w (by omega) (by omega) (by omega)
      have hr2 := fun w => blread_c (t ++ [122, 10]) 0 0 w (by rw [List.length_append]; show _ + 2 ≤ _; omega) (by omega) (by omega)
      rw [hl1] at hr1
      rw [hl2] at hr2
      simp only [] at hr1 hr2
      clear hl1 hl2 ht hu hm HT HWC HIC HGC HFO HF HHD
      go_wp2_with fail
      refine (hr1 _).mono ?_
      rintro e w2 ⟨rfl, hb2⟩
      have hN := node_new w2 ⟨1, 4, 0, false, [], u⟩
      have hA := (hA.step hb2).alloc (.cells (bnCells ⟨1, 4, 0, false, [], u⟩).toArray 52)
      go_upto_region 22 with fail
      generalize w2.alloc (.cells (bnCells ⟨1, 4, 0, false, [], u⟩).toArray 52) = w3 at *
      go_wp2_with fail
      refine (hr2 _).mono ?_
      rintro e w4 ⟨rfl, hb4⟩
      have hN1 := (hN.below hb4 hN.lt).alloc (.cells (bnCells ⟨1, 4, 0, false, [], u⟩).toArray 52)
      have hN2 := node_new w4 ⟨1, 4, 0, false, [], u⟩
      have hA := (hA.step hb4).alloc (.cells (bnCells ⟨1, 4, 0, false, [], u⟩).toArray 52)
      go_upto_region 23 with fail
      generalize w4.alloc (.cells (bnCells ⟨1, 4, 0, false, [], u⟩).toArray 52) = w5 at *
      have n0 := hN1.cell 0
      have n1 := hN1.cell 1
      have n6 := hN1.cell 6
      have m6 := hN2.cell 6
      simp only [List.getElem?_cons_zero, List.getElem?_cons_succ] at n0 n1 n6 m6
      clear hr1 hr2 hb2 hb4 hN hN1 hN2
      go_wp2_with fail
      refine (awake13_c _).mono ?_
      rintro e w7 ⟨rfl, hb⟩
      have hA := hA.step hb
      clear hb
      go_wp2_with fail
      go_ret
      exact ⟨rfl, hA.below⟩
end Go.Proofs.YtobojdkloblfbaaDoor
