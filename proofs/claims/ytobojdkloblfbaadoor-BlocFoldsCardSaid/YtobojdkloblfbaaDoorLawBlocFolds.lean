/- The walk of bosketlaw13.BlocFolds. -/
import Derived.Test.YtobojdkloblfbaaDoorLawBloc0
import Derived.Test.YtobojdkloblfbaaDoorLits
import Derived.Test.YtobojdkloblfbaaDoorWWord
import Derived.Test.YtobojdkloblfbaaDoorPBloc7
import Derived.Deep.RegionHeld3
namespace Go.Proofs.YtobojdkloblfbaaDoor
open Go.RowKit U Go.Proofs

attribute [local go_sem] ite_min' ite_max'
theorem Sl.bools {w : World} {v : Value} {xs : List Bool} (h : Sl w v (xs.map fun x : Bool => Value.bool x)) :
    ∃ a c, v = .slice a xs.length c ∧ (∀ (i : Nat) (hi : i < xs.length), ∃ b off, a = some ⟨b, off, none⟩ ∧ b < w.heap.size ∧ w.cell? ⟨b, off + i, none⟩ = some (.bool (xs[i]'hi))) := by
  rcases h with ⟨hx, rfl | ⟨ad, c, rfl⟩⟩ | ⟨b, off, c, hne, rfl, hb, hcell⟩
  · obtain rfl : xs = [] := by simpa using hx
    exact ⟨_, _, rfl, fun i hi => by simp at hi⟩
  · obtain rfl : xs = [] := by simpa using hx
    exact ⟨_, _, rfl, fun i hi => by simp at hi⟩
  · exact ⟨_, _, by rw [List.length_map], fun i hi => ⟨b, off, rfl, hb, hcell i _ (by simp [hi])⟩⟩
theorem own_after {w w' : World} {B : Nat} {e : TypeId} {s n : Nat} {v : Value} {xs : List Value} (h : w.ownsRow B e s v n xs) (hb : Below w.heap.size w w') : w'.ownsRow B e s v n xs :=
  h.kept (row := none) ⟨hb.os, hb.tape, hb.output, hb.size, fun k hk _ => hb.block k hk⟩ (by cases hv : v.ownBlock <;> simp)
def textsF (tx : Nat → List UInt8) : Nat → List (List UInt8)
  | 0 => []
  | i + 1 => textsF tx i ++ [tx i]
theorem textsF_len (tx : Nat → List UInt8) : ∀ i, (textsF tx i).length = i
  | 0 => rfl
  | i + 1 => by rw [textsF, List.length_append, textsF_len tx i]; rfl
theorem textsF_head (tx : Nat → List UInt8) : ∀ i, 0 < i → ∃ tl, textsF tx i = tx 0 :: tl
  | 1, _ => ⟨[], rfl⟩
  | i + 2, _ => by
    obtain ⟨tl, h⟩ := textsF_head tx (i + 1) (by omega)
    exact ⟨tl ++ [tx (i + 1)], by rw [textsF, h, List.cons_append]⟩
theorem textsF_mem (tx : Nat → List UInt8) : ∀ i, ∀ x ∈ textsF tx i, ∃ j, j < i ∧ x = tx j
  | 0, x, h => by cases h
  | i + 1, x, h => by
    rw [textsF] at h
    rcases List.mem_append.1 h with h | h
    · obtain ⟨j, hj, e⟩ := textsF_mem tx i x h
      exact ⟨j, by omega, e⟩
    · exact ⟨i, by omega, by simpa using h⟩
theorem textsF_sum (tx : Nat → List UInt8) (h : ∀ i, (tx i).length ≤ 5) : ∀ i, sumL (textsF tx i) ≤ 6 * i
  | 0 => Nat.le_refl _
  | i + 1 => by
    have := textsF_sum tx h i
    have := h i
    rw [textsF, sumL_snoc]
    omega
/-- Which rows are further in. -/
def inF (bs : List Bool) (k : Nat) : Bool := decide (0 < k) && bs.getD k false
def txF (ws : List Int) (bs : List Bool) (k : Nat) : List UInt8 := (if inF bs k then [32, 32] else []) ++ wordOf (ws.getD k 0)
theorem txF_ok (ws : List Int) (bs : List Bool) (k : Nat) : (txF ws bs k).length ≤ 5 ∧ 1 ≤ (txF ws bs k).length ∧ ∀ b ∈ txF ws bs k, b ≠ 10 := by
  have h := word_all _ (wordOf_mem (ws.getD k 0))
  unfold txF
  generalize wordOf (ws.getD k 0) = wd at *
  rw [List.length_append]
  refine ⟨?_, ?_, fun b hb => ?_⟩
  · split <;> simp <;> omega
  · omega
  · rcases List.mem_append.1 hb with hb | hb
    · split at hb
      · have : b = 32 := by simpa using hb
        subst this; decide
      · cases hb
    · exact h.2.2.1 b hb
theorem linesR_snoc (w : Nat) (xs : List (List UInt8)) (x : List UInt8) (h : x ≠ []) : linesR w (xs ++ [x]) = linesR w xs ++ (List.replicate w 32 ++ (x ++ [10])) := by
  rw [linesR_append, linesR_cons, rawR, if_neg h]
  simp [linesR]
/-- Since a world. -/
def NodeQ (w0 W w : World) : Prop := At w0 w ∧ Below W.heap.size W w
theorem NodeQ.step {w0 W w w' : World} (h : NodeQ w0 W w) (hb : Below w.heap.size w w') : NodeQ w0 W w' := ⟨h.1.step hb, h.2.trans (hb.mono h.2.size)⟩
theorem NodeQ.drew {w0 W w : World} (h : NodeQ w0 W w) : NodeQ w0 W w.drew := ⟨h.1.drewN 1, below_drewN h.2 1⟩
theorem keepQ {w0 W w : World} {g : Nat} {v u : Value} (h : NodeQ w0 W w) (HK : Hid (g < W.heap.size ∧ W.cell? ⟨g, 10, none⟩ = some v ∧ W.cell? ⟨g, 11, none⟩ = some u)) :
    NodeQ w0 W w ∧ w.cell? ⟨g, 10, none⟩ = some v ∧ w.cell? ⟨g, 11, none⟩ = some u :=
  ⟨h, (h.2.cell (p := ⟨g, 10, none⟩) HK.out.1).trans HK.out.2.1, (h.2.cell (p := ⟨g, 11, none⟩) HK.out.1).trans HK.out.2.2⟩
set_option maxRecDepth 100000 in
set_option maxHeartbeats 8000000 in
theorem blocFolds_c (ws : List Int) (wv : Value) (bs : List Bool) (bv : Value) (nt : Int) (st : Bool) (w : World) (hE : Env w) (hw : Sl w wv (ws.map fun x : Int => Value.int .i64 x)) (_hww : ∀ x ∈ ws, (Lit.int .i64 x).wf = true) (_hwl : ws.length ≤ 9223372036854775807)
    (hb : Sl w bv (bs.map fun x : Bool => Value.bool x)) (_hbl : bs.length ≤ 9223372036854775807) (_n1 : -9223372036854775808 ≤ nt) (_n2 : nt ≤ 9223372036854775807) :
    Calls Tryd.prog 12 #[wv, bv, .int .i64 nt, .bool st] w fun e w' => e = .returned (.bool true) ∧ Below w.heap.size w w' := by
  have hA := At.refl hE
  obtain ⟨wa, wc', rfl, hwc⟩ := Sl.ints (k := .i64) hw
  obtain ⟨ba, bc', rfl, hbc⟩ := Sl.bools hb
  have HWC := Lib.hid hwc
  have HBC := Lib.hid hbc
  clear hwc hbc hw hb
  by_cases hn1 : ws.length < 1
  · go_enter Tryd.func12, Tryd.ntmps12
    go_wp2_with (go_at_call 34; refine (awake13_c _).mono ?_; rintro e w1 ⟨rfl, hb⟩; have hA := hA.step hb; clear hb)
    go_ret
    exact ⟨rfl, hA.below⟩
  by_cases hn8 : 8 < ws.length
  · go_enter Tryd.func12, Tryd.ntmps12
    go_wp2_with (go_at_call 34; refine (awake13_c _).mono ?_; rintro e w1 ⟨rfl, hb⟩; have hA := hA.step hb; clear hb)
    go_ret
    exact ⟨rfl, hA.below⟩
  have hn : 1 ≤ ws.length ∧ ws.length ≤ 8 := by omega
  have gn1 : decide ((ws.length : Int) < 1) = false := decide_eq_false (by omega)
  have gn8 : decide ((8 : Int) < (ws.length : Int)) = false := decide_eq_false (by omega)
  obtain ⟨i0, hi, hz0, hz1, hz2⟩ := info_parts blStr
  have hLn := fun w => lit_low nt 11 (low nt 11) w (by omega) (by omega) rfl
  have hc := low_lt nt 11 (by omega)
  generalize low nt 11 = c at *
  obtain ⟨cw, hcw⟩ : ∃ cw, (if c < 10 then some (wordOf c) else none) = cw := ⟨_, rfl⟩
  have HCW := Lib.hid hcw
  clear hn1 hn8 hcw
  obtain ⟨h1, hh1⟩ : ∃ h1, [62] ++ (if st then [45] else []) = (h1 : List UInt8) := ⟨_, rfl⟩
  have hh1l : h1.length ≤ 2 := by rw [← hh1]; cases st <;> simp
  have HH1 := Lib.hid hh1
  clear hh1
  go_enter Tryd.func12, Tryd.ntmps12
  go_upto_if 27 with fail
  go_cut [9] from 27 to 27 (fun s wx => s = .string ⟨h1.toArray⟩ ∧ w = wx)
  case first =>
    have hh := HH1.out
    cases st with
    | true =>
      subst hh
      go_wp2_with fail
      go_meet
      exact ⟨rfl, rfl⟩
    | false =>
      subst hh
      go_wp2_with fail
      go_meet
      exact ⟨rfl, rfl⟩
  case rest =>
    obtain ⟨rfl, rfl⟩ := hcut
    obtain ⟨h2, hh2⟩ : ∃ h2, hF st cw = h2 := ⟨_, rfl⟩
    have hh2l : h2.length ≤ 9 := by
      rw [← hh2, ← HCW.out]
      have := wordOf_len c
      unfold hF
      by_cases h : c < 10
      · rw [if_pos h]; cases st <;> simp <;> omega
      · rw [if_neg h]; cases st <;> simp
    have HH2 := Lib.hid hh2
    clear hh2
    go_upto_region 7 with fail
    refine (hLn _).mono ?_
    rintro e w1 ⟨rfl, hw1⟩
    obtain rfl := hw1.symm
    go_upto_region 7 with fail
    obtain ⟨z, hz⟩ : ∃ z, decide (c < 10) = z := ⟨_, rfl⟩
    have HZ := Lib.hid hz
    clear hz hLn
    go_cut [31] from 30 to 31 (fun s wx => s = .bool z ∧ w = wx)
    case first =>
      go_wp2_with fail
      go_meet
      exact ⟨by rw [← HZ.out]; simp <;> omega, rfl⟩
    case rest =>
      obtain ⟨rfl, rfl⟩ := hcut
      go_upto_if 31 with fail
      go_cut [9] from 32 to 37 (fun s wx => s = .string ⟨h2.toArray⟩ ∧ At w wx)
      case first =>
        have hz := HZ.out
        have hh1 := HH1.out
        have hh2 := HH2.out
        have hcw := HCW.out
        have hwl := wordOf_len c
        clear HZ HH1 HH2 HCW HWC HBC hi hz0 hz1 hz2
        cases z with
        | true =>
          rw [if_pos (of_decide_eq_true hz)] at hcw
          have h22 : h2 = h1 ++ [32, 32, 35] ++ wordOf c ++ [32] := by
            rw [← hh2, ← hh1, ← hcw]
            simp [hF]
          have hW := fun w => word_c (c : Int) w
          generalize wordOf (c : Int) = wd at *
          have H22 := Lib.hid h22
          clear hh1 hh2 hcw hz h22
          go_wp2_with fail
          refine (hW _).mono ?_
          rintro e w2 ⟨rfl, hb2⟩
          have hA := hA.step hb2
          clear hb2
          go_wp2_with fail
          go_meet
          exact ⟨by rw [H22.out]; simp, hA⟩
        | false =>
          rw [if_neg (of_decide_eq_false hz)] at hcw
          have h22 : h2 = h1 := by
            rw [← hh2, ← hh1, ← hcw]
            simp [hF]
          subst h22
          clear hh1 hh2 hcw hz
          go_wp2_with fail
          go_meet
          exact ⟨rfl, hA⟩
      case rest =>
        obtain ⟨rfl, hA2⟩ := hcut
        obtain ⟨W1, hW1⟩ : ∃ W1, W1 = wc := ⟨_, rfl⟩
        subst hW1
        have hA := hA2
        clear hA2
        go_wp2_with fail
        go_loopg [9, 11, 12] ws.length (fun gk s9 v s12 wr => ∃ (k : Nat) (t : List UInt8), k ≤ ws.length ∧ gk = ws.length - k ∧ s12 = .int .i64 k ∧ s9 = .string ⟨t.toArray⟩ ∧ t.length ≤ 10 + 9 * k ∧ Hid (t = h2 ++ 10 :: linesR 3 (textsF (txF ws bs) k)) ∧ wr.ownsRow w.heap.size 9 1 v k (strs (textsF (txF ws bs) k)) ∧ At w wr)
        case atStart => exact ⟨0, _, Nat.zero_le _, rfl, rfl, rfl, by simp; omega, Lib.hid rfl, own_nil _ _ _, hA⟩
        case round =>
          clear hA
          obtain ⟨k, t, hk, hgk, rfl, rfl, htl, HT, hown, hA⟩ := hrel
          by_cases hlt : k < ws.length
          · obtain ⟨b0, off, rfl, hb0, hck0⟩ := HWC.out k hlt
            have hck := (hA.below.cell (p := ⟨b0, off + k, none⟩) hb0).trans hck0
            have hgd : ws.getD k 0 = ws[k]'hlt := by simp [hlt]
            have hW := fun w => word_c (ws.getD k 0) w
            rw [hgd] at hW
            obtain ⟨x, hx⟩ : ∃ x, ws[k]'hlt = x := ⟨_, rfl⟩
            rw [hx] at hW hck hgd
            have htx : txF ws bs k = (if inF bs k then [32, 32] else []) ++ wordOf x := by unfold txF; rw [hgd]
            have htok := txF_ok ws bs k
            have hfin : inF bs k = (decide (0 < k) && bs.getD k false) := rfl
            have htn : textsF (txF ws bs) (k + 1) = textsF (txF ws bs) k ++ [txF ws bs k] := rfl
            have hwl := wordOf_len x
            generalize wordOf x = wd at *
            obtain ⟨ind, hind⟩ : ∃ ind, inF bs k = ind := ⟨_, rfl⟩
            rw [hind] at htx hfin
            have HTN : Hid (h2 ++ 10 :: linesR 3 (textsF (txF ws bs) (k + 1)) = t ++ (32 :: 32 :: 32 :: (txF ws bs k ++ [10])) ∧ strs (textsF (txF ws bs) (k + 1)) = strs (textsF (txF ws bs) k) ++ [.string ⟨(txF ws bs k).toArray⟩]) := Lib.hid (by
              refine ⟨?_, by rw [htn, strs_snoc']⟩
              rw [htn, linesR_snoc 3 _ _ (by intro e; rw [e] at htok; simp at htok), HT.out]
              simp [List.replicate])
            generalize hT2 : textsF (txF ws bs) (k + 1) = T2 at *
            generalize hT1 : textsF (txF ws bs) k = T1 at *
            generalize txF ws bs k = tx at *
            have HTX := Lib.hid htx
            have HFI := Lib.hid hfin
            have HT2 := Lib.hid hT2
            clear hgd hx htx hfin hind htn hck0 HT hT1 hT2
            go_wp2_with fail
            refine (hW _).mono ?_
            rintro e w2 ⟨rfl, hb2⟩
            have hA := hA.step hb2
            have hown := own_after hown hb2
            clear hb2 hW hck
            go_upto_region 15 with fail
            go_cut [64] from 51 to 64 (fun s wx => s = .bool ind ∧ w2 = wx)
            case first =>
              have hf := HFI.out
              clear HFI HTX HTN HT2 hown hi hz0 hz1 hz2
              by_cases h0 : k = 0
              · subst h0
                obtain rfl : ind = false := by rw [hf]; rfl
                clear hf
                go_wp2_with fail
                go_meet
                exact ⟨rfl, rfl⟩
              · have hk0 : (0 : Int) < (k : Int) := by omega
                by_cases hkb : k < bs.length
                · obtain ⟨b1, off1, rfl, hb1, hcb0⟩ := HBC.out k hkb
                  have hcb := (hA.below.cell (p := ⟨b1, off1 + k, none⟩) hb1).trans hcb0
                  have hgb : bs.getD k false = bs[k]'hkb := by simp [hkb]
                  obtain ⟨y, hy⟩ : ∃ y, bs[k]'hkb = y := ⟨_, rfl⟩
                  rw [hy] at hcb hgb
                  obtain rfl : ind = y := by rw [hf, hgb, decide_eq_true (by omega)]; rfl
                  clear hf hcb0 hgb hy h0
                  go_wp2_with fail
                  go_meet
                  exact ⟨rfl, rfl⟩
                · obtain rfl : ind = false := by rw [hf]; simp; intro _; simp [Nat.le_of_not_lt hkb]
                  have gkb : decide ((k : Int) < (bs.length : Int)) = false := decide_eq_false (by omega)
                  clear hf h0
                  go_wp2_with fail
                  go_meet
                  exact ⟨rfl, rfl⟩
            case rest =>
              obtain ⟨rfl, rfl⟩ := hcut
              clear HFI
              go_upto_if 64 with fail
              go_cut [13] from 64 to 66 (fun s wx => s = .string ⟨tx.toArray⟩ ∧ w2 = wx)
              case first =>
                have hx := HTX.out
                clear HTX HTN HT2 hown hi hz0 hz1 hz2 HWC HBC
                cases ind with
                | true =>
                  have hx : tx = 32 :: 32 :: wd := hx
                  have HX := Lib.hid hx
                  clear hx
                  go_wp2_with fail
                  go_meet
                  exact ⟨by rw [HX.out], rfl⟩
                | false =>
                  have hx : tx = wd := hx
                  subst hx
                  go_wp2_with fail
                  go_meet
                  exact ⟨rfl, rfl⟩
              case rest =>
                obtain ⟨rfl, rfl⟩ := hcut
                have hsz := hA.below.size
                have hbw := hA.below
                have hc3 : k + 1 ≤ maxLen := by unfold maxLen; omega
                have hc4 : (k + 1) * 16 ≤ 140737488355328 := by omega
                go_upto_region 17 with fail
                go_cut [11] from 67 to 70 (fun v wx => wx.ownsRow w.heap.size 9 1 v (k + 1) (strs T2) ∧ Below w.heap.size w wx)
                case first =>
                  have hT1l : (strs T1).length = k := by have := hown.1; omega
                  go_wp2_with (at_builtin; go_loud (refine wpList_push rfl _ _ 45 rfl w.heap.size 9 i0 (.string ⟨#[]⟩) 16 Tryd.underlying45 hi hz0 hz1 hz2 rfl u11 _ _ _ rfl hown rfl rfl hc3 hc4 hbw hsz ?_); intro v1 w3 hown1 hbw1)
                  go_meet
                  exact ⟨by rw [HTN.out.2]; exact hown1, hbw1⟩
                case rest =>
                  obtain ⟨hown2, hbw2⟩ := hcut
                  have HO := Lib.hid (And.intro hown2 (show At w wc from ⟨hA.start, hbw2⟩))
                  have H1 := Lib.hid HTN.out.1
                  clear hown2 hbw2 hown hA hsz hbw HTN HTX
                  go_wp2_with fail
                  go_roundg (ws.length - (k + 1))
                  case measure => omega
                  case rel => exact ⟨k + 1, _, by omega, rfl, by go_num, rfl, by simp; omega, Lib.hid (by rw [HT2.out]; exact H1.out.symm), by rw [HT2.out]; exact HO.out.1, HO.out.2⟩
          · obtain rfl : k = ws.length := by omega
            clear hlt
            obtain ⟨xs, hxs⟩ : ∃ xs, textsF (txF ws bs) ws.length = xs := ⟨_, rfl⟩
            rw [hxs] at HT hown
            have hxl : xs.length = ws.length := by rw [← hxs, textsF_len]
            have hsum : sumL xs ≤ 1000000 := by
              have := textsF_sum (txF ws bs) (fun i => (txF_ok ws bs i).1) ws.length
              rw [hxs] at this
              omega
            have hkm : ∀ x ∈ xs, ∀ b ∈ x, b ≠ 10 := by
              intro x hx
              rw [← hxs] at hx
              obtain ⟨j, _, rfl⟩ := textsF_mem _ _ x hx
              exact (txF_ok ws bs j).2.2
            obtain ⟨tl, htl0⟩ := textsF_head (txF ws bs) ws.length (by omega)
            rw [hxs] at htl0
            have hx0 := word_cut _ (wordOf_mem (ws.getD 0 0))
            have htx0 : txF ws bs 0 = wordOf (ws.getD 0 0) := by unfold txF inF; rfl
            obtain ⟨m, hm⟩ : ∃ m, ws.length = m + 1 := ⟨ws.length - 1, by omega⟩
            have hlast : xs = textsF (txF ws bs) m ++ [txF ws bs m] := by rw [← hxs, hm]; rfl
            have hy : txF ws bs m ≠ [] := by
              have := (txF_ok ws bs m).2.1
              intro e
              rw [e] at this
              simp at this
            have hcc : ∀ u, cw = some u → (∀ b ∈ u, b ≠ 10) ∧ cutW u = u := by
              intro u hu
              rw [← HCW.out] at hu
              split at hu
              · injection hu with hu
                rw [← hu]
                exact ⟨(word_all _ (wordOf_mem c)).2.2.1, (word_cut _ (wordOf_mem c)).1⟩
              · cases hu
            have hlaw := folds_law (strip := st) (c := cw) hcc hkm htl0 (by rw [htx0]; exact hx0.2.2) (by rw [htx0]; exact hx0.2.1) hlast hy
            rw [HH2.out, ← HT.out] at hlaw
            have htlen : h2.length + 1 + (linesR 3 xs).length = t.length := by rw [HT.out]; simp; omega
            rw [htlen] at hlaw
            have hSl := Slc.own (by rw [hxl]; exact hown)
            have hFB := fun w h => foldBlock_c u11 xs true w h hsum
            have hbl : blockM xs true = foldB xs [] 0 := rfl
            have hbll := Nat.le_trans (blockM_len xs true) hsum
            rw [hbl] at hFB hbll
            generalize foldB xs [] 0 = fb at *
            have hrd := fun w => blread_c t 0 2 w (by omega) (by omega) (by omega)
            rw [hlaw] at hrd
            simp only [] at hrd
            have HS := Lib.hid hSl
            clear hlaw htlen hkm htl0 hx0 htx0 hm hlast hy hcc hxs hxl hsum hown HT hSl hbl HWC HBC hi hz0 hz1 hz2 HH1 HH2
            obtain ⟨fb2, hfb2⟩ : ∃ fb2, (fb ++ if st then [] else [10]) = fb2 := ⟨_, rfl⟩
            rw [hfb2] at hrd
            obtain ⟨has, hhas⟩ : ∃ has, cw.isSome = has := ⟨_, rfl⟩
            obtain ⟨tr, htr⟩ : ∃ tr, cw.getD [] = tr := ⟨_, rfl⟩
            rw [hhas, htr] at hrd
            have HAS : Hid ((c < 10 → has = true ∧ tr = wordOf c) ∧ (¬ c < 10 → has = false)) := Lib.hid (by
              rw [← hhas, ← htr, ← HCW.out]
              refine ⟨fun h => ?_, fun h => ?_⟩
              · rw [if_pos h]; exact ⟨rfl, rfl⟩
              · rw [if_neg h]; rfl)
            clear hhas htr
            have HFB2 := Lib.hid hfb2
            clear hfb2
            go_wp2_with fail
            refine (hFB _ HS.out).mono ?_
            rintro e w3 ⟨rfl, hb3⟩
            have hA := hA.step hb3
            clear hb3 hFB HS
            go_upto_region 20 with fail
            go_upto_if 79 with fail
            go_cut [14] from 79 to 81 (fun s wx => s = .string ⟨fb2.toArray⟩ ∧ w3 = wx)
            case first =>
              have hf := HFB2.out
              clear HFB2 HCW hrd
              cases st with
              | true =>
                have hf : fb = fb2 := by simpa using hf
                subst hf
                go_wp2_with fail
                go_meet
                exact ⟨rfl, rfl⟩
              | false =>
                have hf : fb ++ [10] = fb2 := hf
                have HF := Lib.hid hf
                clear hf
                go_wp2_with fail
                go_meet
                exact ⟨by rw [HF.out], rfl⟩
            case rest =>
              obtain ⟨rfl, rfl⟩ := hcut
              clear HFB2
              go_wp2_with fail
              refine (hrd _).mono ?_
              rintro e w4 ⟨rfl, hb4⟩
              have hA := (hA.step hb4).alloc (.cells (bnCells { kind := 1, style := 5, at' := 0, has := has, trail := tr, text := fb2 }).toArray 52)
              have hN := node_new w4 { kind := 1, style := 5, at' := 0, has := has, trail := tr, text := fb2 }
              have hg : w4.heap.size < (w4.alloc (.cells (bnCells { kind := 1, style := 5, at' := 0, has := has, trail := tr, text := fb2 }).toArray 52)).heap.size := by simp
              clear hrd hb4
              have n10 := hN.cell 10
              have n11 := hN.cell 11
              have n6 := hN.cell 6
              have n1 := hN.cell 1
              simp only [List.getElem?_cons_zero, List.getElem?_cons_succ] at n10 n11 n6 n1
              clear hN
              go_upto_region 23 with fail
              generalize w4.alloc (.cells (bnCells { kind := 1, style := 5, at' := 0, has := has, trail := tr, text := fb2 }).toArray 52) = w5 at *
              generalize w4.heap.size = g at *
              have HK : Hid (g < w5.heap.size ∧ w5.cell? ⟨g, 10, none⟩ = some (.bool has) ∧ w5.cell? ⟨g, 11, none⟩ = some (.string ⟨tr.toArray⟩)) := Lib.hid ⟨hg, n10, n11⟩
              have HN : Hid (w5.cell? ⟨g, 6, none⟩ = some (.string ⟨fb2.toArray⟩) ∧ w5.cell? ⟨g, 1, none⟩ = some (.int .i64 5)) := Lib.hid ⟨n6, n1⟩
              have hS : NodeQ w w5 w5 := ⟨hA, Below.refl _ _⟩
              clear n6 n1 hA
              go_cut [109] from 88 to 109 (fun s wx => s = .bool false ∧ NodeQ w w5 wx)
              case first =>
                have hh := HAS.out
                clear HN HAS HCW
                by_cases h10 : c < 10
                · obtain ⟨rfl, rfl⟩ := hh.1 h10
                  have gc : decide ((c : Int) < 10) = true := decide_eq_true (by omega)
                  have gc2 : ((c : Int) == 10) = false := by rw [beq_eq_false_iff_ne]; omega
                  have hWS := fun (w2 : World) (h : NodeQ w w5 w2) => (word_c (c : Int) w2).mono (R' := fun e w' => e = .returned (.string ⟨(wordOf c).toArray⟩) ∧ NodeQ w w5 w') (fun _ _ x => ⟨x.1, h.step x.2⟩)
                  clear hh h10 hc
                  generalize wordOf (c : Int) = wd at *
                  have gw : (wd != wd) = false := by simp
                  refine wp_region_held_drew (S := (fun w2 => NodeQ w w5 w2 ∧ w2.cell? ⟨g, 10, none⟩ = some (.bool true) ∧ w2.cell? ⟨g, 11, none⟩ = some (.string ⟨wd.toArray⟩))) (by kernel_rfl) (keepQ (NodeQ.drew hS) HK) (fun hHeld => ?_)
                  refine wpAnyH_take (i := 0) (v := ?_) rfl (by kernel_rfl) (by kernel_rfl) (by kernel_rfl) (fun _ _ _ h => h) (Or.inl ⟨by rfl, ?_⟩) (by assumption) ?_
                  rotate_left
                  · intro w hSw; (try dsimp only at hSw); go_simp; (try with_reducible rfl)
                  try simp only [List.getElem_toArray, List.getElem_cons_zero, Act.put, List.setIfInBounds_toArray, List.set_cons_zero, List.set_cons_succ]
                  refine wpAnyH_take (i := 1) (v := ?_) rfl (by kernel_rfl) (by kernel_rfl) (by kernel_rfl) (fun _ _ _ h => h) (Or.inl ⟨by rfl, ?_⟩) (by assumption) ?_
                  rotate_left
                  · intro w hSw; (try dsimp only at hSw); go_simp; (try with_reducible rfl)
                  try simp only [List.getElem_toArray, List.getElem_cons_zero, List.getElem_cons_succ, Act.put, List.setIfInBounds_toArray, List.set_cons_zero, List.set_cons_succ]
                  refine wpAnyH_take (i := 2) (v := ?_) rfl (by kernel_rfl) (by kernel_rfl) (by kernel_rfl) (fun _ _ _ h => h) (Or.inl ⟨by rfl, ?_⟩) (by assumption) ?_
                  rotate_left
                  · intro w hSw; (try dsimp only at hSw); go_simp; (try with_reducible rfl)
                  try simp only [List.getElem_toArray, List.getElem_cons_zero, List.getElem_cons_succ, Act.put, List.setIfInBounds_toArray, List.set_cons_zero, List.set_cons_succ]
                  refine wpAnyH_take (i := 3) (v := ?_) rfl (by kernel_rfl) (by kernel_rfl) (by kernel_rfl) (fun _ _ _ h => h) (Or.inl ⟨by rfl, ?_⟩) (by assumption) ?_
                  rotate_left
                  · intro w hSw; (try dsimp only at hSw); go_simp; (try with_reducible rfl)
                  try simp only [List.getElem_toArray, List.getElem_cons_zero, List.getElem_cons_succ, Act.put, List.setIfInBounds_toArray, List.set_cons_zero, List.set_cons_succ]
                  refine wpAnyH_take (i := 4) (v := ?_) rfl (by kernel_rfl) (by kernel_rfl) (by kernel_rfl) (fun _ _ _ h => h) (Or.inl ⟨by rfl, ?_⟩) (by assumption) ?_
                  rotate_left
                  · intro w hSw; (try dsimp only at hSw); go_simp; (try with_reducible rfl)
                  try simp only [List.getElem_toArray, List.getElem_cons_zero, List.getElem_cons_succ, Act.put, List.setIfInBounds_toArray, List.set_cons_zero, List.set_cons_succ]
                  refine wpAnyH_take (i := 5) (v := ?_) rfl (by kernel_rfl) (by kernel_rfl) (by kernel_rfl) (fun _ _ _ h => h) (Or.inl ⟨by rfl, ?_⟩) (by assumption) ?_
                  rotate_left
                  · intro w hSw; (try dsimp only at hSw); go_simp; (try with_reducible rfl)
                  try simp only [List.getElem_toArray, List.getElem_cons_zero, List.getElem_cons_succ, Act.put, List.setIfInBounds_toArray, List.set_cons_zero, List.set_cons_succ]
                  refine wpAnyH_take (i := 6) (v := ?_) rfl (by kernel_rfl) (by kernel_rfl) (by kernel_rfl) (fun _ _ _ h => h) (Or.inl ⟨by rfl, ?_⟩) (by assumption) ?_
                  rotate_left
                  · intro w hSw; (try dsimp only at hSw); go_simp; (try with_reducible rfl)
                  try simp only [List.getElem_toArray, List.getElem_cons_zero, List.getElem_cons_succ, Act.put, List.setIfInBounds_toArray, List.set_cons_zero, List.set_cons_succ]
                  refine wpAnyH_take (i := 7) (v := ?_) rfl (by kernel_rfl) (by kernel_rfl) (by kernel_rfl) (fun _ _ _ h => h) (Or.inl ⟨by rfl, ?_⟩) (by assumption) ?_
                  rotate_left
                  · intro w hSw; (try dsimp only at hSw); go_simp; (try with_reducible rfl)
                  try simp only [List.getElem_toArray, List.getElem_cons_zero, List.getElem_cons_succ, Act.put, List.setIfInBounds_toArray, List.set_cons_zero, List.set_cons_succ]
                  refine wpAnyH_take (i := 8) (v := ?_) rfl (by kernel_rfl) (by kernel_rfl) (by kernel_rfl) (fun _ _ _ h => h) (Or.inl ⟨by rfl, ?_⟩) (by assumption) ?_
                  rotate_left
                  · intro w hSw; (try dsimp only at hSw); go_simp; (try with_reducible rfl)
                  try simp only [List.getElem_toArray, List.getElem_cons_zero, List.getElem_cons_succ, Act.put, List.setIfInBounds_toArray, List.set_cons_zero, List.set_cons_succ]
                  refine wpAnyH_take (i := 9) (v := ?_) rfl (by kernel_rfl) (by kernel_rfl) (by kernel_rfl) (fun _ _ _ h => h) (Or.inl ⟨by rfl, ?_⟩) (by assumption) ?_
                  rotate_left
                  · intro w hSw; (try dsimp only at hSw); go_simp; (try with_reducible rfl)
                  try simp only [List.getElem_toArray, List.getElem_cons_zero, List.getElem_cons_succ, Act.put, List.setIfInBounds_toArray, List.set_cons_zero, List.set_cons_succ]
                  refine wpAnyH_ready (rs := [10]) (by kernel_rfl) (by simp) ?_
                  refine AllReadyH.cons rfl (fun K hK => ?_) AllReadyH.nil
                  go_simp
                  (go_at_call 30; (with_reducible refine (hWS _ hHeld.1).mono ?_); rintro e w6 ⟨rfl, hS6⟩)
                  refine hK.out _ _ (keepQ hS6 HK) (fun hHeld => ?_)
                  clear hK K
                  try simp only [List.getElem_toArray, List.getElem_cons_zero, List.getElem_cons_succ, Act.put, List.setIfInBounds_toArray, List.set_cons_zero, List.set_cons_succ]
                  refine wpAnyH_take (i := 11) (v := ?_) rfl (by kernel_rfl) (by kernel_rfl) (by kernel_rfl) (fun _ _ _ h => h) (Or.inl ⟨by rfl, ?_⟩) (by assumption) ?_
                  rotate_left
                  · intro w hSw; (try dsimp only at hSw); go_simp; (try with_reducible rfl)
                  try simp only [List.getElem_toArray, List.getElem_cons_zero, List.getElem_cons_succ, Act.put, List.setIfInBounds_toArray, List.set_cons_zero, List.set_cons_succ]
                  refine wpAnyH_take (i := 12) (v := ?_) rfl (by kernel_rfl) (by kernel_rfl) (by kernel_rfl) (fun _ _ _ h => h) (Or.inl ⟨by rfl, ?_⟩) (by assumption) ?_
                  rotate_left
                  · intro w hSw; (try dsimp only at hSw); go_simp; (try with_reducible rfl)
                  try simp only [List.getElem_toArray, List.getElem_cons_zero, List.getElem_cons_succ, Act.put, List.setIfInBounds_toArray, List.set_cons_zero, List.set_cons_succ]
                  refine wpAnyH_take (i := 13) (v := ?_) rfl (by kernel_rfl) (by kernel_rfl) (by kernel_rfl) (fun _ _ _ h => h) (Or.inl ⟨by rfl, ?_⟩) (by assumption) ?_
                  rotate_left
                  · intro w hSw; (try dsimp only at hSw); go_simp; (try with_reducible rfl)
                  try simp only [List.getElem_toArray, List.getElem_cons_zero, List.getElem_cons_succ, Act.put, List.setIfInBounds_toArray, List.set_cons_zero, List.set_cons_succ]
                  refine wpAnyH_take (i := 14) (v := ?_) rfl (by kernel_rfl) (by kernel_rfl) (by kernel_rfl) (fun _ _ _ h => h) (Or.inl ⟨by rfl, ?_⟩) (by assumption) ?_
                  rotate_left
                  · intro w hSw; (try dsimp only at hSw); go_simp; (try with_reducible rfl)
                  try simp only [List.getElem_toArray, List.getElem_cons_zero, List.getElem_cons_succ, Act.put, List.setIfInBounds_toArray, List.set_cons_zero, List.set_cons_succ]
                  refine wpAnyH_take (i := 15) (v := ?_) rfl (by kernel_rfl) (by kernel_rfl) (by kernel_rfl) (fun _ _ _ h => h) (Or.inl ⟨by rfl, ?_⟩) (by assumption) ?_
                  rotate_left
                  · intro w hSw; (try dsimp only at hSw); go_simp; (try with_reducible rfl)
                  try simp only [List.getElem_toArray, List.getElem_cons_zero, List.getElem_cons_succ, Act.put, List.setIfInBounds_toArray, List.set_cons_zero, List.set_cons_succ]
                  refine wpAnyH_take (i := 16) (v := ?_) rfl (by kernel_rfl) (by kernel_rfl) (by kernel_rfl) (fun _ _ _ h => h) (Or.inl ⟨by rfl, ?_⟩) (by assumption) ?_
                  rotate_left
                  · intro w hSw; (try dsimp only at hSw); go_simp; (try with_reducible rfl)
                  try simp only [List.getElem_toArray, List.getElem_cons_zero, List.getElem_cons_succ, Act.put, List.setIfInBounds_toArray, List.set_cons_zero, List.set_cons_succ]
                  refine wpAnyH_take (i := 17) (v := ?_) rfl (by kernel_rfl) (by kernel_rfl) (by kernel_rfl) (fun _ _ _ h => h) (Or.inl ⟨by rfl, ?_⟩) (by assumption) ?_
                  rotate_left
                  · intro w hSw; (try dsimp only at hSw); go_simp; (try with_reducible rfl)
                  try simp only [List.getElem_toArray, List.getElem_cons_zero, List.getElem_cons_succ, Act.put, List.setIfInBounds_toArray, List.set_cons_zero, List.set_cons_succ]
                  refine wpAnyH_take (i := 18) (v := undef) rfl (by kernel_rfl) (by kernel_rfl) (by kernel_rfl) (fun _ _ _ h => h) (Or.inr ⟨by rfl, rfl⟩) (by assumption) ?_
                  try simp only [List.getElem_toArray, List.getElem_cons_zero, List.getElem_cons_succ, Act.put, List.setIfInBounds_toArray, List.set_cons_zero, List.set_cons_succ]
                  refine wpAnyH_take (i := 19) (v := undef) rfl (by kernel_rfl) (by kernel_rfl) (by kernel_rfl) (fun _ _ _ h => h) (Or.inr ⟨by rfl, rfl⟩) (by assumption) ?_
                  try simp only [List.getElem_toArray, List.getElem_cons_zero, List.getElem_cons_succ, Act.put, List.setIfInBounds_toArray, List.set_cons_zero, List.set_cons_succ]
                  refine wpAnyH_take (i := 20) (v := ?_) rfl (by kernel_rfl) (by kernel_rfl) (by kernel_rfl) (fun _ _ _ h => h) (Or.inl ⟨by rfl, ?_⟩) (by assumption) ?_
                  rotate_left
                  · intro w hSw; (try dsimp only at hSw); go_simp; (try with_reducible rfl)
                  try simp only [List.getElem_toArray, List.getElem_cons_zero, List.getElem_cons_succ, Act.put, List.setIfInBounds_toArray, List.set_cons_zero, List.set_cons_succ]
                  refine wpAnyH_take (i := 21) (v := ?_) rfl (by kernel_rfl) (by kernel_rfl) (by kernel_rfl) (fun _ _ _ h => h) (Or.inl ⟨by rfl, ?_⟩) (by assumption) ?_
                  rotate_left
                  · intro w hSw; (try dsimp only at hSw); go_simp; (try with_reducible rfl)
                  try simp only [List.getElem_toArray, List.getElem_cons_zero, List.getElem_cons_succ, Act.put, List.setIfInBounds_toArray, List.set_cons_zero, List.set_cons_succ]
                  refine wpAnyH_done (by kernel_rfl) ?_ _
                  go_wp2_with fail
                  go_meet
                  exact ⟨by first | rfl | simp, hS6⟩
                · obtain rfl := hh.2 h10
                  have gc : decide ((c : Int) < 10) = false := decide_eq_false (by omega)
                  have gc2 : ((c : Int) == 10) = true := by rw [beq_iff_eq]; omega
                  clear hh h10 hc
                  go_quiet (fail)
                  go_wp2_with fail
                  go_meet
                  exact ⟨rfl, hS.1.drewN _, below_drewN hS.2 _⟩
              case rest =>
                obtain ⟨rfl, hS2⟩ := hcut
                have m6 := (hS2.2.cell (p := ⟨g, 6, none⟩) hg).trans HN.out.1
                have m1 := (hS2.2.cell (p := ⟨g, 1, none⟩) hg).trans HN.out.2
                have hA := hS2.1
                clear HN HAS HCW HK hS2 hS n10 n11
                go_wp2_with fail
                refine (awake13_c _).mono ?_
                rintro e w7 ⟨rfl, hb⟩
                have hA := hA.step hb
                clear hb
                go_wp2_with fail
                go_ret
                exact ⟨rfl, hA.below⟩
end Go.Proofs.YtobojdkloblfbaaDoor
