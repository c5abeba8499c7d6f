/- The walks of package bloc: the rows of a scalar; what they are told as. -/
import Derived.Test.YtjfgcbikdibjeaaGreatDoorWBlocC
import Derived.Test.YtjfgcbikdibjeaaGreatDoorWFold
namespace Go.Proofs.YtjfgcbikdibjeaaGreatDoor
open Go.RowKit U Go.Proofs

attribute [local go_sem] ite_min' ite_max'
theorem blStr : (Tryz.prog.info? 9).map (fun i => (i.zero, i.size, i.bytes)) = some (some (.string ⟨#[]⟩), 1, 16) := by kernel_rfl
theorem strs_snoc' (xs : List (List UInt8)) (x : List UInt8) : strs (xs ++ [x]) = strs xs ++ [.string ⟨x.toArray⟩] := by simp [strs]
theorem drop_min (m : List UInt8) (w : Nat) : m.drop (min w m.length) = m.drop w := by
  rcases Nat.le_total w m.length with h | h
  · rw [Nat.min_eq_left h]
  · rw [Nat.min_eq_right h, List.drop_length, List.drop_eq_nil_of_le h]
set_option maxRecDepth 100000 in
set_option maxHeartbeats 8000000 in
theorem bllines_c (g : Nat) (l : List UInt8) (b E W : Nat) (w : World) (h : Full w g 134 (bodyCells l b E W)) (hs : l.length ≤ 1000000) (hb : b ≤ l.length) (hst : St l b) (hE : endM l W b = E) (hWl : W ≤ 2147483647) :
    Calls Tryz.prog 118 #[.pointer (some ⟨g, 0, none⟩)] w fun e w' => ∃ v, e = .returned (.tuple #[v, .int .i64 (goM l W b [] 0 0).2.2.1]) ∧
      Slc w' v ((goM l W b [] 0 0).1.take (goM l W b [] 0 0).2.1) ∧ Below w.heap.size w w' := by
  obtain ⟨i0, hi, hz0, hz1, hz2⟩ := info_parts blStr
  have hEl := end_is l W _ b (Nat.le_refl _) hb
  rw [hE] at hEl
  obtain ⟨R, hR⟩ : ∃ R, goM l W b [] 0 0 = R := ⟨_, rfl⟩
  rw [hR]
  have c0 := h.cell 0
  have c1 := h.cell 1
  have c2 := h.cell 2
  have c3 := h.cell 3
  simp only [List.getElem?_cons_zero, List.getElem?_cons_succ] at c0 c1 c2 c3
  have H := Lib.hid h
  have hg := h.lt
  have HR := Lib.hid hR
  have HE := Lib.hid hE
  have HS := Lib.hid hst
  clear h hR hE hst
  go_enter Tryz.func118, Tryz.ntmps118
  go_wp2_with fail
  clear c0 c1 c2 c3
  go_loopg [4, 5, 6, 7] (l.length - b) (fun gk v s5 s6 s7 wr => ∃ (p full feeds : Nat) (acc : List (List UInt8)), p ≤ l.length ∧ gk = l.length - p ∧ s5 = .int .i64 full ∧ s6 = .int .i64 feeds ∧ s7 = .int .i64 p ∧ wr.ownsRow w.heap.size 9 1 v acc.length (strs acc) ∧ Below w.heap.size w wr ∧ acc.length ≤ p ∧ feeds ≤ p ∧ full ≤ acc.length ∧ Hid (goM l W p acc full feeds = R) ∧ Hid (endM l W p = E))
  case atStart => exact ⟨b, 0, 0, [], hb, rfl, rfl, rfl, rfl, own_nil _ _ _, Below.refl _ _, Nat.zero_le _, Nat.zero_le _, Nat.zero_le _, HR, HE⟩
  case round =>
    obtain ⟨p, full, feeds, acc, hp, hgk, rfl, rfl, rfl, hown, hbw, ha, hfp, hfa, HR, HE⟩ := hrel
    have hsz := hbw.size
    have hF := H.out.below hbw hg
    have c0 := hF.cell 0
    have c1 := hF.cell 1
    have c2 := hF.cell 2
    have c3 := hF.cell 3
    simp only [List.getElem?_cons_zero, List.getElem?_cons_succ] at c0 c1 c2 c3
    have HF := Lib.hid hF
    clear hF
    have hc3 : acc.length + 1 ≤ maxLen := by unfold maxLen; omega
    have hc4 : (acc.length + 1) * 16 ≤ 140737488355328 := by omega
    by_cases hgo : p < l.length ∧ okB l W p = true
    · have hng := next_gt hgo.1
      have hnl := next_le l p
      have HE2 : Hid (endM l W (nextM l p) = E) := Lib.hid (by rw [← HE.out, end_go hgo.1 hgo.2])
      have hlt : p < E := by
        have := (end_is l W _ (nextM l p) (Nat.le_refl _) hnl).1
        rw [HE2.out] at this
        omega
      have HR2 : Hid (goM l W (nextM l p) (acc ++ [textB l W p]) (if textB l W p = [] then full else acc.length + 1) ((if textB l W p = [] then feeds else 0) + if rowTo l p < l.length then 1 else 0) = R) := Lib.hid (by
        rw [← HR.out, go_go hgo.1 hgo.2])
      have hRo := fun w => blrow_c l p w (by omega) hp
      have hN := fun w => blnext_c l p w (by omega) hp
      have hRw := fun w => row_n l p w (by omega) hp
      have htx : textB l W p = (rowM l p).drop (min W (rowM l p).length) := (drop_min _ _).symm
      have hrl := rowM_len hp
      have htl := rowTo_le hp
      generalize nextM l p = q at *
      generalize rowM l p = rr at *
      generalize rowTo l p = t at *
      generalize rowFrom l p = f at *
      have hmin : min (W : Int) (rr.length : Int) = ((min W rr.length : Nat) : Int) := by omega
      have hmax : max (W : Int) 0 = W := by omega
      have hml : min W rr.length ≤ rr.length := Nat.min_le_right _ _
      generalize min W rr.length = k at *
      generalize hx : textB l W p = x at *
      have hrs : rr.length ≤ l.length := by omega
      clear hgo HR HE hx hrl
      subst htx
      go_wp2_with fail
      refine (hRo _).mono ?_
      rintro e w1 ⟨rfl, rfl⟩
      go_upto_region 8 with fail
      generalize rr.drop k = x at *
      clear hmin hmax hml hRo hrs
      go_cut [4] (fun v wx => wx.ownsRow w.heap.size 9 1 v (acc.length + 1) (strs (acc ++ [x])) ∧ Below w.heap.size w wx)
      case first =>
        go_wp2_with (at_builtin; go_loud (refine wpList_push rfl _ _ 39 rfl w.heap.size 9 i0 (.string ⟨#[]⟩) 16 Tryz.underlying39 hi hz0 hz1 hz2 rfl u4 _ _ _ rfl hown rfl rfl hc3 hc4 hbw hsz ?_); intro v1 w2 hown1 hbw1)
        go_meet
        exact ⟨by rw [strs_snoc']; exact hown1, hbw1⟩
      case rest =>
        obtain ⟨hown2, hbw2⟩ := hcut
        clear c0 c1 c2 c3 HF hown hbw hsz
        obtain ⟨ao, cp, hsh⟩ := own_shape hown2
        subst hsh
        have hF := H.out.below hbw2 hg
        have c0 := hF.cell 0
        have c1 := hF.cell 1
        have c2 := hF.cell 2
        have c3 := hF.cell 3
        simp only [List.getElem?_cons_zero, List.getElem?_cons_succ] at c0 c1 c2 c3
        have HF := Lib.hid hF
        clear hF
        generalize hfu : (if x = [] then full else acc.length + 1) = fu at *
        generalize hfe : (if x = [] then feeds else 0) = fe at *
        have hfu1 : fu ≤ acc.length + 1 := by rw [← hfu]; split <;> omega
        have hfe1 : fe ≤ p := by rw [← hfe]; split <;> omega
        have HFU := Lib.hid hfu
        have HFE := Lib.hid hfe
        clear hfu hfe
        obtain ⟨w2, hw2⟩ : ∃ w2, w2 = wc := ⟨_, rfl⟩
        rw [← hw2] at hown2 hbw2 HF c0 c1 c2 c3 ⊢
        clear hw2
        go_upto_region 9 with fail
        go_cut [48] (fun s wx => s = .bool (!x.isEmpty) ∧ w2 = wx)
        case first =>
          go_wp2_with fail
          go_meet
          exact ⟨by cases x <;> rfl, rfl⟩
        case rest =>
          obtain ⟨rfl, rfl⟩ := hcut
          generalize hne : (!x.isEmpty) = ne at *
          have HNE := Lib.hid hne
          clear hne
          go_upto_if 48 with fail
          go_cut [5, 6] (fun s5 s6 wx => s5 = .int .i64 fu ∧ s6 = .int .i64 fe ∧ w2 = wx)
          case first =>
            have h1 := HFU.out
            have h2 := HFE.out
            clear HFU HFE
            have h3 := HNE.out
            clear HNE
            cases ne with
            | false =>
              have hx : x = [] := by cases x with | nil => rfl | cons _ _ => cases h3
              rw [if_pos hx] at h1 h2
              subst h1 h2
              clear hx h3
              go_wp2_with fail
              go_meet
              exact ⟨rfl, rfl, rfl⟩
            | true =>
              have hx : x ≠ [] := fun e => by rw [e] at h3; cases h3
              rw [if_neg hx] at h1 h2
              subst h1 h2
              clear hx h3
              go_wp2_with fail
              go_meet
              exact ⟨by go_num, rfl, rfl⟩
          case rest =>
            obtain ⟨rfl, rfl, rfl⟩ := hcut
            have HO := Lib.hid hown2
            have hal : (acc ++ [x]).length = acc.length + 1 := by rw [List.length_append]; rfl
            by_cases htn : t < l.length
            · have HR3 : Hid (goM l W q (acc ++ [x]) fu (fe + 1) = R) := Lib.hid (by
                have h1 := HR2.out
                rw [if_pos htn] at h1
                exact h1)
              clear HR2 hown2
              go_wp2_with fail
              refine (hRw _).mono ?_
              rintro e w3 ⟨rfl, rfl⟩
              go_wp2_with fail
              refine (hN _).mono ?_
              rintro e w3 ⟨rfl, rfl⟩
              go_wp2_with fail
              go_roundg (l.length - q)
              case measure => omega
              case rel => exact ⟨q, fu, fe + 1, acc ++ [x], hnl, rfl, rfl, by go_num, rfl, by rw [hal]; exact HO.out, hbw2, by omega, by omega, by omega, HR3, HE2⟩
            · have HR3 : Hid (goM l W q (acc ++ [x]) fu fe = R) := Lib.hid (by
                have h1 := HR2.out
                rw [if_neg htn] at h1
                exact h1)
              clear HR2 hown2
              go_wp2_with fail
              refine (hRw _).mono ?_
              rintro e w3 ⟨rfl, rfl⟩
              go_wp2_with fail
              refine (hN _).mono ?_
              rintro e w3 ⟨rfl, rfl⟩
              go_wp2_with fail
              go_roundg (l.length - q)
              case measure => omega
              case rel => exact ⟨q, fu, fe, acc ++ [x], hnl, rfl, rfl, rfl, rfl, by rw [hal]; exact HO.out, hbw2, by omega, by omega, by omega, HR3, HE2⟩
    · have HR2 : Hid (R = (acc, full, feeds, p)) := Lib.hid (by rw [← HR.out, go_stop hgo])
      have HP : p = E := by rw [← HE.out, end_stop hgo]
      have hlt : ¬ p < E := by omega
      have HSl := Lib.hid (Slc.own hown)
      obtain ⟨ao, cp, hsh⟩ := own_shape hown
      subst hsh
      have hcp : acc.length ≤ cp := by
        obtain ⟨a', c', e, hc', _⟩ := HSl.out
        injection e with _ _ e3
        rw [e3]; exact hc'
      clear hgo HR HE hown
      go_wp2_with fail
      go_ret2
      rw [HR2.out]
      exact ⟨_, rfl, HSl.out.take hfa, hbw⟩
set_option maxRecDepth 100000 in
set_option maxHeartbeats 2000000 in
theorem bltold_c (v : Value) (xs : List (List UInt8)) (feeds keep : Nat) (f : Bool) (w : World) (h : Slc w v xs) (hs : sumL xs ≤ 1000000) (hf : feeds ≤ 1000000) :
    Calls Tryz.prog 119 #[v, .int .i64 feeds, .bool f, .int .u8 keep] w fun e w' => e = .returned (.string ⟨(toldM xs feeds f keep).toArray⟩) ∧ Below w.heap.size w w' := by
  have hB := fun w h => foldBlock_c v xs f w h hs
  have hBl := blockM_len xs f
  have hfe : feedsM keep xs.length feeds = if keep = 45 then 0 else if keep = 0 then (if xs.length = 0 then 0 else min feeds 1) else feeds := rfl
  have hT : toldM xs feeds f keep = blockM xs f ++ List.replicate (feedsM keep xs.length feeds) 10 := rfl
  rw [hT]
  generalize feedsM keep xs.length feeds = fe at *
  generalize blockM xs f = bl at *
  have hfe1 : fe ≤ 1000000 := by
    rw [hfe]
    split
    · omega
    · split
      · split <;> omega
      · exact hf
  have hR := fun w => reps_c fe w (by omega)
  obtain ⟨a, n, c, hv, hn⟩ : ∃ a n c, v = .slice a n c ∧ n = xs.length := by obtain ⟨a, c, h, _⟩ := h; exact ⟨a, _, c, h, rfl⟩
  subst hv
  rw [← hn] at hfe
  have H := Lib.hid h
  have HFE := Lib.hid hfe
  have hbl1 : bl.length ≤ 1000000 := Nat.le_trans hBl hs
  have hrl1 : (List.replicate fe (10 : UInt8)).length ≤ 1000000 := by rw [List.length_replicate]; exact hfe1
  clear h hT hfe hn hBl
  generalize hrp : List.replicate fe (10 : UInt8) = rp at *
  clear hrp
  go_enter Tryz.func119, Tryz.ntmps119
  go_upto_block 0 with fail
  go_cut [1] (fun s wx => s = .int .i64 fe ∧ w = wx)
  case first =>
    by_cases h45 : keep = 45
    · have g45 : ((keep : Int) == 45) = true := by rw [h45]; rfl
      obtain rfl : fe = 0 := by rw [HFE.out, if_pos h45]
      clear h45 HFE
      go_wp2_with fail
      go_meet
      exact ⟨rfl, rfl⟩
    · have g45 : ((keep : Int) == 45) = false := by rw [beq_eq_false_iff_ne]; omega
      have h1 := HFE.out
      rw [if_neg h45] at h1
      clear HFE
      by_cases h0 : keep = 0
      · have g0 : ((keep : Int) == 0) = true := by rw [h0]; rfl
        rw [if_pos h0] at h1
        clear h45 h0
        by_cases hn0 : n = 0
        · have gn : ((n : Int) == 0) = true := by rw [hn0]; rfl
          rw [if_pos hn0] at h1
          subst h1
          clear hn0
          go_wp2_with fail
          go_meet
          exact ⟨rfl, rfl⟩
        · have gn : ((n : Int) == 0) = false := by rw [beq_eq_false_iff_ne]; omega
          rw [if_neg hn0] at h1
          have hm : min (feeds : Int) 1 = fe := by omega
          clear h1 hn0
          go_wp2_with fail
          go_meet
          exact ⟨rfl, rfl⟩
      · have g0 : ((keep : Int) == 0) = false := by rw [beq_eq_false_iff_ne]; omega
        rw [if_neg h0] at h1
        subst h1
        clear h45 h0
        go_wp2_with fail
        go_meet
        exact ⟨rfl, rfl⟩
  case rest =>
    obtain ⟨rfl, rfl⟩ := hcut
    go_wp2_with fail
    refine (hB _ H.out).mono ?_
    rintro e w1 ⟨rfl, hb1⟩
    go_wp2_with fail
    refine (hR _).mono ?_
    rintro e w2 ⟨rfl, hb2⟩
    go_wp2_with fail
    go_ret
    exact ⟨ret_str rfl, hb1.trans (hb2.mono hb1.size)⟩
end Go.Proofs.YtjfgcbikdibjeaaGreatDoor
