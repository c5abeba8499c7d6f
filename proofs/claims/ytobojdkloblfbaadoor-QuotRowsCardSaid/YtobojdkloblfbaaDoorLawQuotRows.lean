/- QuotRows: rows of words within quotes. -/
import Derived.Test.YtobojdkloblfbaaDoorLawQuot0
import Derived.Test.YtobojdkloblfbaaDoorWWord
namespace Go.Proofs.YtobojdkloblfbaaDoor
open Go.RowKit U Go.Proofs

theorem Sl.boolsQ {w : World} {v : Value} {xs : List Bool} (h : Sl w v (xs.map fun x : Bool => Value.bool x)) :
    ∃ a c, v = .slice a xs.length c ∧ (∀ (i : Nat) (hi : i < xs.length), ∃ b off, a = some ⟨b, off, none⟩ ∧ b < w.heap.size ∧ w.cell? ⟨b, off + i, none⟩ = some (.bool (xs[i]'hi))) := by
  rcases h with ⟨hx, rfl | ⟨ad, c, rfl⟩⟩ | ⟨b, off, c, hne, rfl, hb, hcell⟩
  · obtain rfl : xs = [] := by simpa using hx
    exact ⟨_, _, rfl, fun i hi => by simp at hi⟩
  · obtain rfl : xs = [] := by simpa using hx
    exact ⟨_, _, rfl, fun i hi => by simp at hi⟩
  · exact ⟨_, _, by rw [List.length_map], fun i hi => ⟨b, off, rfl, hb, hcell i _ (by simp [hi])⟩⟩
set_option maxRecDepth 100000 in
set_option maxHeartbeats 1000000 in
theorem qblan_c (n : Nat) (w : World) (hn : n ≤ 1000000) : Calls Tryd.prog 31 #[.int .i64 n] w fun e w' => e = .returned (.string ⟨(List.replicate n 32).toArray⟩) ∧ w = w' := by
  go_enter Tryd.func31, Tryd.ntmps31
  go_wp2_with fail
  go_loop [3, 4] (fun s i => ∃ (k : Nat) (t : List UInt8), k ≤ n ∧ s = .string ⟨t.toArray⟩ ∧ t.length = k ∧ Hid (t = List.replicate k 32) ∧ i = .int .i64 k) (fun _ i => n - (intOf i).toNat)
  case atStart => exact ⟨0, [], Nat.zero_le _, rfl, rfl, Lib.hid rfl, rfl⟩
  case round =>
    obtain ⟨k, t, hk, rfl, htk, HT, rfl⟩ := hrel
    by_cases hlt : k < n
    · go_wp2_with fail
      go_round
      case rel => exact ⟨k + 1, t ++ [32], by omega, rfl, by simp; omega, Lib.hid (by rw [HT.out, List.replicate_succ']), by go_num⟩
      case measure => simp [intOf]; omega
    · obtain rfl : k = n := by omega
      go_wp2_with fail
      go_ret
      exact ⟨ret_str (by rw [HT.out]), rfl⟩
set_option maxRecDepth 100000 in
set_option maxHeartbeats 1000000 in
theorem qfeeds_c (n : Nat) (w : World) (hn : n ≤ 1000000) : Calls Tryd.prog 32 #[.int .i64 n] w fun e w' => e = .returned (.string ⟨(List.replicate n 10).toArray⟩) ∧ w = w' := by
  go_enter Tryd.func32, Tryd.ntmps32
  go_wp2_with fail
  go_loop [3, 4] (fun s i => ∃ (k : Nat) (t : List UInt8), k ≤ n ∧ s = .string ⟨t.toArray⟩ ∧ t.length = k ∧ Hid (t = List.replicate k 10) ∧ i = .int .i64 k) (fun _ i => n - (intOf i).toNat)
  case atStart => exact ⟨0, [], Nat.zero_le _, rfl, rfl, Lib.hid rfl, rfl⟩
  case round =>
    obtain ⟨k, t, hk, rfl, htk, HT, rfl⟩ := hrel
    by_cases hlt : k < n
    · go_wp2_with fail
      go_round
      case rel => exact ⟨k + 1, t ++ [10], by omega, rfl, by simp; omega, Lib.hid (by rw [HT.out, List.replicate_succ']), by go_num⟩
      case measure => simp [intOf]; omega
    · obtain rfl : k = n := by omega
      go_wp2_with fail
      go_ret
      exact ⟨ret_str (by rw [HT.out]), rfl⟩
def lowR (gs : List Int) (i : Nat) : Nat := if i < gs.length then low (gs.getD i 0) 3 else 0
def boolR (bs : List Bool) (i : Nat) : Bool := decide (i < bs.length) && bs.getD i false
theorem lowR_lt (gs : List Int) (i : Nat) : lowR gs i < 3 := by
  unfold lowR
  split
  · exact low_lt _ _ (by omega)
  · omega
theorem wordOf_words (n : Int) : wordOf n ∈ wordsQ := wordOf_mem n
theorem itemTx_len (w : List UInt8) (g inn : Nat) (on wt : Bool) : (itemTx w g inn on wt).length ≤ w.length + inn + 10 := by
  unfold itemTx blankRows
  simp only [List.length_append, List.length_cons, List.length_replicate]
  have h1 : (if (wt && !on) = true then ([32, 9, 32] : List UInt8) else []).length ≤ 3 := by split <;> simp
  have h2 : (if on = true then ([92] : List UInt8) else []).length ≤ 1 := by split <;> simp
  have h3 : (if wt = true then ([9] : List UInt8) else []).length ≤ 1 := by split <;> simp
  have h4 : (if g = 0 then ([] : List UInt8) else if g = 1 then [10] else [10, 32, 10]).length ≤ 3 := by split <;> (try split) <;> simp
  omega
set_option maxRecDepth 100000 in
set_option maxHeartbeats 16000000 in
theorem quotRows_c (ws : List Int) (wv : Value) (gs : List Int) (gv : Value) (is : List Int) (iv : Value) (os : List Bool) (ov : Value) (hs : List Bool) (hv : Value) (w : World) (hE : Env w)
    (hw : Sl w wv (ws.map fun x : Int => Value.int .i64 x)) (_hww : ∀ x ∈ ws, (Lit.int .i64 x).wf = true) (_hwl : ws.length ≤ 9223372036854775807)
    (hg : Sl w gv (gs.map fun x : Int => Value.int .i64 x)) (_hgw : ∀ x ∈ gs, (Lit.int .i64 x).wf = true) (_hgl : gs.length ≤ 9223372036854775807)
    (hi : Sl w iv (is.map fun x : Int => Value.int .i64 x)) (_hiw : ∀ x ∈ is, (Lit.int .i64 x).wf = true) (_hil : is.length ≤ 9223372036854775807)
    (ho : Sl w ov (os.map fun x : Bool => Value.bool x)) (_hol : os.length ≤ 9223372036854775807)
    (hh : Sl w hv (hs.map fun x : Bool => Value.bool x)) (_hhl : hs.length ≤ 9223372036854775807) :
    Calls Tryd.prog 7 #[wv, gv, iv, ov, hv] w fun e w' => e = .returned (.bool true) ∧ Below w.heap.size w w' := by
  have hA := At.refl hE
  obtain ⟨wa, wc', rfl, hwc⟩ := Sl.ints (k := .i64) hw
  obtain ⟨ia, ic', rfl, hic⟩ := Sl.ints (k := .i64) hi
  obtain ⟨ga, gc', rfl, hgc⟩ := Sl.ints (k := .i64) hg
  obtain ⟨oa, oc', rfl, hoc⟩ := Sl.boolsQ ho
  obtain ⟨ha, hc', rfl, hhc⟩ := Sl.boolsQ hh
  have HWC := Lib.hid hwc
  have HIC := Lib.hid hic
  have HGC := Lib.hid hgc
  have HOC := Lib.hid hoc
  have HHC := Lib.hid hhc
  clear hwc hic hgc hoc hhc hw hi hg ho hh _hww _hgw _hiw
  by_cases hn1 : ws.length < 1
  · go_enter Tryd.func7, Tryd.ntmps7
    go_wp2_with (go_at_call 29; refine (awake12_c _).mono ?_; rintro e w1 ⟨rfl, hb⟩; have hA := hA.step hb; clear hb)
    go_ret
    exact ⟨rfl, hA.below⟩
  by_cases hn8 : 8 < ws.length
  · go_enter Tryd.func7, Tryd.ntmps7
    go_wp2_with (go_at_call 29; refine (awake12_c _).mono ?_; rintro e w1 ⟨rfl, hb⟩; have hA := hA.step hb; clear hb)
    go_ret
    exact ⟨rfl, hA.below⟩
  have hn : 1 ≤ ws.length ∧ ws.length ≤ 8 := by omega
  have gn1 : decide ((ws.length : Int) < 1) = false := decide_eq_false (by omega)
  have gn8 : decide ((8 : Int) < (ws.length : Int)) = false := decide_eq_false (by omega)
  clear hn1 hn8
  obtain ⟨fw, hfw⟩ : ∃ fw, (fun j => wordOf (ws.getD j 0)) = fw := ⟨_, rfl⟩
  obtain ⟨fg, hfg⟩ : ∃ fg, lowR gs = fg := ⟨_, rfl⟩
  obtain ⟨fi, hfi⟩ : ∃ fi, lowR is = fi := ⟨_, rfl⟩
  obtain ⟨fo, hfo⟩ : ∃ fo, boolR os = fo := ⟨_, rfl⟩
  obtain ⟨fh, hfh⟩ : ∃ fh, boolR hs = fh := ⟨_, rfl⟩
  have hread := rows_read fw fg fi fo fh (fun i => by rw [← hfw]; exact wordOf_words _) (fun i => by rw [← hfg]; exact lowR_lt _ _) (ws.length - 1)
  have HRD := Lib.hid hread
  clear hread
  have HFW := Lib.hid hfw
  have HFG := Lib.hid hfg
  have HFI := Lib.hid hfi
  have HFO := Lib.hid hfo
  have HFH := Lib.hid hfh
  clear hfw hfg hfi hfo hfh
  go_enter Tryd.func7, Tryd.ntmps7
  go_wp2_with fail
  go_loopg [11, 12, 13] ws.length (fun gk s11 s12 s13 wr => ∃ (k : Nat) (t u : List UInt8), k + 1 ≤ ws.length ∧ gk = ws.length - k ∧ s13 = .int .i64 k ∧ s11 = .string ⟨t.toArray⟩ ∧ s12 = .string ⟨u.toArray⟩ ∧ t.length ≤ 1 + 20 * k ∧ u.length ≤ 20 * k ∧
    Hid (t = [34] ++ txsQ fw fg fi fo fh k ∧ u = wantsQ fw fg fo k) ∧ At w wr)
  case atStart => exact ⟨0, _, _, hn.1, rfl, rfl, rfl, rfl, by decide, by decide, Lib.hid ⟨rfl, rfl⟩, hA⟩
  case round =>
    clear hA
    obtain ⟨k, t, u, hk1, hgk, rfl, rfl, rfl, htl, hul, HT, hA⟩ := hrel
    have hlt : k < ws.length := by omega
    obtain ⟨b0, off, rfl, hb0, hck0⟩ := HWC.out k hlt
    have hgd : ws.getD k 0 = ws[k]'hlt := by simp [hlt]
    obtain ⟨y, hy⟩ : ∃ y, ws[k]'hlt = y := ⟨_, rfl⟩
    rw [hy] at hgd hck0
    have hck := (hA.below.cell (p := ⟨b0, off + k, none⟩) hb0).trans hck0
    have hfk : fw k = wordOf y := by rw [← HFW.out]; show wordOf (ws.getD k 0) = _; rw [hgd]
    have hwdl := wordOf_len y
    have hWo := fun w => word_c y w
    generalize wordOf y = wd at *
    have HFK := Lib.hid hfk
    clear hfk hgd hck0 hb0 hy
    go_wp2_with fail
    refine (hWo _).mono ?_
    rintro e w1 ⟨rfl, hb1⟩
    have hA := hA.step hb1
    clear hb1 hck hWo
    by_cases hlast : k + 1 = ws.length
    · have glast : ((k : Int) == (ws.length : Int) - 1) = true := by rw [beq_iff_eq]; omega
      have hq : quotM (t ++ (wd ++ [34])) 0 0 = (u ++ wd, (t.length : Int) + (wd.length : Int) + 1, ((ws.length : Int) == 1), 0) := by
        have h := HRD.out
        rw [show ws.length - 1 = k by omega, HFK.out, ← HT.out.1, ← HT.out.2] at h
        rw [h]
        refine Prod.ext rfl (Prod.ext ?_ (Prod.ext ?_ rfl))
        · simp only [List.length_append, List.length_singleton]
          omega
        · simp only
          rw [Bool.eq_iff_iff, decide_eq_true_iff, beq_iff_eq]
          omega
      have hRd := fun w => quotIs_c hq w (by simp only [List.length_append, List.length_singleton]; omega) (by omega) (by omega) (by omega) (by omega)
      clear hq HT HRD HFK
      go_wp2_with fail
      refine (hRd _).mono ?_
      rintro e w2 ⟨rfl, hb2⟩
      have hA := hA.step hb2
      go_wp2_with fail
      refine (awake12_c _).mono ?_
      rintro e w3 ⟨rfl, hb3⟩
      have hA := hA.step hb3
      go_wp2_with fail
      go_ret
      exact ⟨rfl, hA.below⟩
    · have glast : ((k : Int) == (ws.length : Int) - 1) = false := by rw [beq_eq_false_iff_ne]; omega
      obtain ⟨gg, hgg⟩ : ∃ gg, fg k = gg := ⟨_, rfl⟩
      obtain ⟨ii, hii⟩ : ∃ ii, fi k = ii := ⟨_, rfl⟩
      obtain ⟨on, hon⟩ : ∃ on, fo k = on := ⟨_, rfl⟩
      obtain ⟨wt, hwt⟩ : ∃ wt, fh k = wt := ⟨_, rfl⟩
      have hgl : gg < 3 := by rw [← hgg, ← HFG.out]; exact lowR_lt _ _
      have hil : ii < 3 := by rw [← hii, ← HFI.out]; exact lowR_lt _ _
      have HT1 : Hid (t ++ itemTx wd gg ii on wt = [34] ++ txsQ fw fg fi fo fh (k + 1)) := Lib.hid (by rw [txsQ_succ, HFK.out, hgg, hii, hon, hwt, ← List.append_assoc, ← HT.out.1])
      have HU1 : Hid (u ++ (wd ++ if on then List.replicate gg 10 else gapQ gg) = wantsQ fw fg fo (k + 1)) := Lib.hid (by rw [wantsQ_succ, HFK.out, hgg, hon, ← HT.out.2])
      have HGG : Hid (lowR gs k = gg) := Lib.hid (by rw [HFG.out]; exact hgg)
      have HII : Hid (lowR is k = ii) := Lib.hid (by rw [HFI.out]; exact hii)
      have HON : Hid (boolR os k = on) := Lib.hid (by rw [HFO.out]; exact hon)
      have HWT : Hid (boolR hs k = wt) := Lib.hid (by rw [HFH.out]; exact hwt)
      clear hgg hii hon hwt HRD HFK HT HWC
      go_upto_if 57 with fail
      go_cut [15] from 57 to 62 (fun s wx => s = .int .i64 gg ∧ w1 = wx)
      case first =>
        have hgg := HGG.out
        clear HT1 HU1 HGG HII HON HWT
        unfold lowR at hgg
        by_cases hc : k < gs.length
        · rw [if_pos hc] at hgg
          obtain ⟨b2, off2, rfl, hb2, hcb0⟩ := HGC.out k hc
          have hcb := (hA.below.cell (p := ⟨b2, off2 + k, none⟩) hb2).trans hcb0
          have hgd : gs.getD k 0 = gs[k]'hc := by simp [hc]
          obtain ⟨z, hz⟩ : ∃ z, gs[k]'hc = z := ⟨_, rfl⟩
          rw [hz] at hcb hgd
          rw [hgd] at hgg
          have hL := fun w => low_c z 3 w (by omega) (by omega)
          rw [hgg] at hL
          clear hcb0 hgd hz hgg
          go_wp2_with fail
          refine (hL _).mono ?_
          rintro e w2 ⟨rfl, rfl⟩
          go_wp2_with fail
          go_meet
          exact ⟨rfl, rfl⟩
        · rw [if_neg hc] at hgg
          subst hgg
          have gd : (gs.length : Int) ≤ (k : Int) := by omega
          clear hc
          go_wp2_with fail
          go_meet
          exact ⟨rfl, rfl⟩
      case rest =>
        obtain ⟨rfl, rfl⟩ := hcut
        clear HGG
        go_upto_if 66 with fail
        go_cut [16] from 66 to 72 (fun s wx => s = .int .i64 ((1 + ii : Nat) : Int) ∧ w1 = wx)
        case first =>
          have hgg := HII.out
          clear HT1 HU1 HII HON HWT
          unfold lowR at hgg
          by_cases hc : k < is.length
          · rw [if_pos hc] at hgg
            obtain ⟨b2, off2, rfl, hb2, hcb0⟩ := HIC.out k hc
            have hcb := (hA.below.cell (p := ⟨b2, off2 + k, none⟩) hb2).trans hcb0
            have hgd : is.getD k 0 = is[k]'hc := by simp [hc]
            obtain ⟨z, hz⟩ : ∃ z, is[k]'hc = z := ⟨_, rfl⟩
            rw [hz] at hcb hgd
            rw [hgd] at hgg
            have hL := fun w => low_c z 3 w (by omega) (by omega)
            rw [hgg] at hL
            clear hcb0 hgd hz hgg
            go_wp2_with fail
            refine (hL _).mono ?_
            rintro e w2 ⟨rfl, rfl⟩
            go_wp2_with fail
            go_meet
            exact ⟨by rw [show ((1 + ii : Nat) : Int) = 1 + (ii : Int) by omega], rfl⟩
          · rw [if_neg hc] at hgg
            subst hgg
            have gd : (is.length : Int) ≤ (k : Int) := by omega
            clear hc
            go_wp2_with fail
            go_meet
            exact ⟨rfl, rfl⟩
        case rest =>
          obtain ⟨rfl, rfl⟩ := hcut
          clear HII
          go_upto_region 15 with fail
          go_cut [17] from 73 to 82 (fun s wx => s = .bool on ∧ w1 = wx)
          case first =>
            have hgg := HON.out
            clear HT1 HU1 HON HWT
            unfold boolR at hgg
            by_cases hc : k < os.length
            · rw [decide_eq_true hc, Bool.true_and] at hgg
              obtain ⟨b2, off2, rfl, hb2, hcb0⟩ := HOC.out k hc
              have hcb := (hA.below.cell (p := ⟨b2, off2 + k, none⟩) hb2).trans hcb0
              have hgd : os.getD k false = os[k]'hc := by simp [hc]
              rw [← hgd, hgg] at hcb
              clear hcb0 hgd hgg
              go_wp2_with fail
              go_meet
              exact ⟨rfl, rfl⟩
            · rw [decide_eq_false hc, Bool.false_and] at hgg
              subst hgg
              have gd : (os.length : Int) ≤ (k : Int) := by omega
              clear hc
              go_wp2_with fail
              go_meet
              exact ⟨rfl, rfl⟩
          case rest =>
            obtain ⟨rfl, rfl⟩ := hcut
            clear HON
            go_upto_region 16 with fail
            go_cut [96] from 83 to 96 (fun s wx => s = .bool (wt && !on) ∧ w1 = wx)
            case first =>
              have hgg := HWT.out
              clear HT1 HU1 HWT
              unfold boolR at hgg
              by_cases hc : k < hs.length
              · rw [decide_eq_true hc, Bool.true_and] at hgg
                obtain ⟨b2, off2, rfl, hb2, hcb0⟩ := HHC.out k hc
                have hcb := (hA.below.cell (p := ⟨b2, off2 + k, none⟩) hb2).trans hcb0
                have hgd : hs.getD k false = hs[k]'hc := by simp [hc]
                rw [← hgd, hgg] at hcb
                clear hcb0 hgd hgg
                cases wt <;> cases on
                all_goals
                  go_wp2_with fail
                  go_meet
                  exact ⟨rfl, rfl⟩
              · rw [decide_eq_false hc, Bool.false_and] at hgg
                subst hgg
                have gd : (hs.length : Int) ≤ (k : Int) := by omega
                clear hc
                go_wp2_with fail
                go_meet
                exact ⟨rfl, rfl⟩
            case rest =>
              obtain ⟨rfl, rfl⟩ := hcut
              obtain ⟨t1, ht1⟩ : ∃ t1, t ++ wd ++ (if (wt && !on) = true then ([32, 9, 32] : List UInt8) else []) ++ (if on then [92] else []) = t1 := ⟨_, rfl⟩
              have hl1 : t1.length ≤ 1 + 20 * k + 7 := by
                rw [← ht1]
                simp only [List.length_append]
                have h1 : (if (wt && !on) = true then ([32, 9, 32] : List UInt8) else []).length ≤ 3 := by split <;> simp
                have h2 : (if on = true then ([92] : List UInt8) else []).length ≤ 1 := by split <;> simp
                omega
              have HT2 : Hid (t1 ++ 10 :: (blankRows gg ++ (List.replicate (ii + 1) 32 ++ if wt then [9] else [])) = [34] ++ txsQ fw fg fi fo fh (k + 1)) := Lib.hid (by
                rw [← HT1.out, ← ht1]
                unfold itemTx
                simp)
              have HX1 := Lib.hid ht1
              clear ht1 HT1
              go_upto_if 96 with fail
              go_cut [11] from 96 to 98 (fun s wx => s = .string ⟨(t ++ wd ++ if (wt && !on) = true then ([32, 9, 32] : List UInt8) else []).toArray⟩ ∧ w1 = wx)
              case first =>
                clear HT2 HU1 HX1 HWT
                cases wt <;> cases on
                all_goals
                  go_wp2_with fail
                  go_meet
                  exact ⟨by simp, rfl⟩
              case rest =>
                obtain ⟨rfl, rfl⟩ := hcut
                have hl0 : (t ++ wd ++ if (wt && !on) = true then ([32, 9, 32] : List UInt8) else []).length ≤ 1 + 20 * k + 6 := by
                  simp only [List.length_append]
                  have h1 : (if (wt && !on) = true then ([32, 9, 32] : List UInt8) else []).length ≤ 3 := by split <;> simp
                  omega
                generalize (t ++ wd ++ if (wt && !on) = true then ([32, 9, 32] : List UInt8) else []) = t0 at *
                go_upto_if 99 with fail
                go_cut [11] from 99 to 101 (fun s wx => s = .string ⟨t1.toArray⟩ ∧ w1 = wx)
                case first =>
                  have hx := HX1.out
                  clear HT2 HU1 HX1 HWT
                  cases on
                  all_goals
                    go_wp2_with fail
                    go_meet
                    exact ⟨by rw [← hx]; simp, rfl⟩
                case rest =>
                  obtain ⟨rfl, rfl⟩ := hcut
                  clear HX1 hl0 htl
                  go_upto_block 2 with fail
                  go_cut [11, 18] from 104 to 113 (fun s11 _ wx => s11 = .string ⟨(t1 ++ 10 :: blankRows gg).toArray⟩ ∧ w1 = wx)
                  case first =>
                    clear HT2 HU1 HWT
                    go_wp2_with fail
                    go_loopg [11, 18] gg (fun gk s11 s18 wr => ∃ j : Nat, j ≤ gg ∧ gk = gg - j ∧ s11 = .string ⟨(t1 ++ 10 :: blankRows j).toArray⟩ ∧ s18 = .int .i64 j ∧ w1 = wr)
                    case atStart => exact ⟨0, Nat.zero_le _, rfl, rfl, rfl, rfl⟩
                    case round =>
                      obtain ⟨j, hj, hgj, rfl, rfl, rfl⟩ := hrel
                      by_cases hjl : j < gg
                      · have hjb : (t1 ++ 10 :: blankRows j) ++ (List.replicate j 32 ++ [10]) = t1 ++ 10 :: blankRows (j + 1) := by
                          rcases (show j = 0 ∨ j = 1 by omega) with rfl | rfl
                          · simp [blankRows]
                          · simp [blankRows]
                        have hbl : (t1 ++ 10 :: blankRows j).length ≤ 1 + 20 * k + 11 := by
                          rcases (show j = 0 ∨ j = 1 by omega) with rfl | rfl
                          · simp [blankRows]; omega
                          · simp [blankRows]; omega
                        have hBl := fun w => qblan_c j w (by omega)
                        have hrj : (List.replicate j (32 : UInt8)).length ≤ 2 := by rw [List.length_replicate]; omega
                        have HJB := Lib.hid hjb
                        clear hjb
                        generalize List.replicate j (32 : UInt8) = rj at *
                        generalize t1 ++ 10 :: blankRows j = tj at *
                        go_wp2_with fail
                        refine (hBl _).mono ?_
                        rintro e w2 ⟨rfl, rfl⟩
                        go_wp2_with fail
                        go_roundg (gg - (j + 1))
                        case measure => omega
                        case rel => exact ⟨j + 1, by omega, rfl, by rw [← HJB.out], by go_num, rfl⟩
                      · obtain rfl : j = gg := by omega
                        go_wp2_with fail
                        go_meet
                        exact ⟨rfl, rfl⟩
                  case rest =>
                    obtain ⟨rfl, rfl⟩ := hcut
                    have hl4 : (t1 ++ 10 :: blankRows gg).length ≤ 1 + 20 * k + 11 := by
                      rcases (show gg = 0 ∨ gg = 1 ∨ gg = 2 by omega) with rfl | rfl | rfl <;> (first | (simp [blankRows]; done) | (simp [blankRows]; omega))
                    have HT3 : Hid ((t1 ++ 10 :: blankRows gg) ++ (List.replicate (1 + ii) 32 ++ if wt then [9] else []) = [34] ++ txsQ fw fg fi fo fh (k + 1)) := Lib.hid (by
                      rw [← HT2.out, Nat.add_comm 1 ii]
                      simp)
                    generalize t1 ++ 10 :: blankRows gg = t4 at *
                    have hBl := fun w => qblan_c (1 + ii) w (by omega)
                    have hrj : (List.replicate (1 + ii) (32 : UInt8)).length ≤ 3 := by rw [List.length_replicate]; omega
                    generalize List.replicate (1 + ii) (32 : UInt8) = ri at *
                    clear HT2
                    go_wp2_with fail
                    refine (hBl _).mono ?_
                    rintro e w2 ⟨rfl, rfl⟩
                    go_upto_region 26 with fail
                    go_cut [127] from 118 to 127 (fun s wx => s = .bool wt ∧ w1 = wx)
                    case first =>
                      have hgg := HWT.out
                      clear HT3 HU1 HWT
                      unfold boolR at hgg
                      by_cases hc : k < hs.length
                      · rw [decide_eq_true hc, Bool.true_and] at hgg
                        obtain ⟨b2, off2, rfl, hb2, hcb0⟩ := HHC.out k hc
                        have hcb := (hA.below.cell (p := ⟨b2, off2 + k, none⟩) hb2).trans hcb0
                        have hgd : hs.getD k false = hs[k]'hc := by simp [hc]
                        rw [← hgd, hgg] at hcb
                        clear hcb0 hgd hgg
                        go_wp2_with fail
                        go_meet
                        exact ⟨rfl, rfl⟩
                      · rw [decide_eq_false hc, Bool.false_and] at hgg
                        subst hgg
                        have gd : (hs.length : Int) ≤ (k : Int) := by omega
                        clear hc
                        go_wp2_with fail
                        go_meet
                        exact ⟨rfl, rfl⟩
                    case rest =>
                      obtain ⟨rfl, rfl⟩ := hcut
                      obtain ⟨t6, ht6⟩ : ∃ t6, t4 ++ (ri ++ if wt then ([9] : List UInt8) else []) = t6 := ⟨_, rfl⟩
                      have hl6 : t6.length ≤ 1 + 20 * (k + 1) := by
                        rw [← ht6]
                        simp only [List.length_append]
                        have h1 : (if wt = true then ([9] : List UInt8) else []).length ≤ 1 := by split <;> simp
                        omega
                      rw [ht6] at HT3
                      have HX6 := Lib.hid ht6
                      clear ht6 HWT
                      go_upto_if 127 with fail
                      go_cut [11] from 127 to 129 (fun s wx => s = .string ⟨t6.toArray⟩ ∧ w1 = wx)
                      case first =>
                        have hx := HX6.out
                        clear HT3 HU1 HX6
                        cases wt
                        all_goals
                          go_wp2_with fail
                          go_meet
                          exact ⟨by rw [← hx]; simp, rfl⟩
                      case rest =>
                        obtain ⟨rfl, rfl⟩ := hcut
                        clear HX6
                        obtain ⟨u6, hu6⟩ : ∃ u6, u ++ wd ++ (if (decide (gg = 0) && !on) = true then ([32] : List UInt8) else []) = u6 := ⟨_, rfl⟩
                        have hlu : u6.length ≤ 20 * k + 4 := by
                          rw [← hu6]
                          simp only [List.length_append]
                          have h1 : (if (decide (gg = 0) && !on) = true then ([32] : List UInt8) else []).length ≤ 1 := by split <;> simp
                          omega
                        have HU2 : Hid (u6 ++ List.replicate gg 10 = wantsQ fw fg fo (k + 1)) := Lib.hid (by
                          rw [← HU1.out, ← hu6]
                          unfold gapQ
                          by_cases hg0 : gg = 0
                          · subst hg0
                            cases on <;> simp
                          · cases on <;> simp [hg0])
                        have HX7 := Lib.hid hu6
                        have hF := fun w => qfeeds_c gg w (by omega)
                        have hfl : (List.replicate gg (10 : UInt8)).length ≤ 2 := by rw [List.length_replicate]; omega
                        clear hu6 HU1
                        go_upto_region 28 with fail
                        go_cut [135] from 130 to 135 (fun s wx => s = .bool (decide (gg = 0) && !on) ∧ w1 = wx)
                        case first =>
                          clear HT3 HU2 HX7
                          by_cases hg0 : gg = 0
                          · subst hg0
                            cases on
                            all_goals
                              go_wp2_with fail
                              go_meet
                              exact ⟨rfl, rfl⟩
                          · have g0 : ((gg : Int) == 0) = false := by rw [beq_eq_false_iff_ne]; omega
                            go_wp2_with fail
                            go_meet
                            exact ⟨by rw [decide_eq_false hg0]; rfl, rfl⟩
                        case rest =>
                          obtain ⟨rfl, rfl⟩ := hcut
                          go_upto_if 135 with fail
                          go_cut [12] from 135 to 137 (fun s wx => s = .string ⟨u6.toArray⟩ ∧ w1 = wx)
                          case first =>
                            have hx := HX7.out
                            clear HT3 HU2 HX7
                            generalize (decide (gg = 0) && !on) = bb at *
                            cases bb
                            all_goals
                              go_wp2_with fail
                              go_meet
                              exact ⟨by rw [← hx]; simp, rfl⟩
                          case rest =>
                            obtain ⟨rfl, rfl⟩ := hcut
                            clear HX7
                            generalize List.replicate gg (10 : UInt8) = rg at *
                            go_wp2_with fail
                            refine (hF _).mono ?_
                            rintro e w2 ⟨rfl, rfl⟩
                            go_wp2_with fail
                            go_roundg (ws.length - (k + 1))
                            case measure => omega
                            case rel => exact ⟨k + 1, t6, u6 ++ rg, by omega, rfl, by go_num, rfl, rfl, hl6, by rw [List.length_append]; omega, Lib.hid ⟨HT3.out, HU2.out⟩, hA⟩
end Go.Proofs.YtobojdkloblfbaaDoor
