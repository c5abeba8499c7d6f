/- The walk of package quot's joined. -/
import Derived.Test.YtjfgcbikdibjeaaGreatDoorWFlow
import Derived.Test.YtjfgcbikdibjeaaGreatDoorWQuotB
import Derived.Test.YtjfgcbikdibjeaaGreatDoorPAllB
namespace Go.Proofs.YtjfgcbikdibjeaaGreatDoor
open Go.RowKit U Go.Proofs

theorem ownF_apart {w : World} {base base' : Nat} {e e' : TypeId} {s s' n n' : Nat} {v v' : Value} {xs xs' : List Value} (h : w.ownsRowF base e s v n xs) (h' : w.ownsRow base' e' s' v' n' xs') (hne : e ≠ e') : v.ownBlock = none ∨ v.ownBlock ≠ v'.ownBlock := by
  rcases h.2 with ⟨rfl, _⟩ | ⟨k, cap, cur, fz, rfl, _, hk, _⟩
  · exact .inl rfl
  · right
    rcases h'.2 with ⟨rfl, _⟩ | ⟨k', cap', cur', rfl, _, hk', _⟩
    · simp [Value.ownBlock]
    · intro he
      have he : k = k' := by simpa [Value.ownBlock] using he
      subst he
      rw [hk] at hk'
      injection hk' with hk'
      injection hk' with _ h2
      exact hne h2
theorem isB_grown {B b : Nat} {l : List UInt8} {w w' : World} {base n : Nat} {v : Value} {xs : List Value} (h : IsB B b l w) (hs : w.ownsRow base 9 1 v n xs) (hg : w.grownBy w' v.ownBlock) : IsB B b l w' := by
  have key : ∀ p, Lib.BuilderAtF 78 5 B b p (Lib.byteCells l) w → Lib.BuilderAtF 78 5 B b p (Lib.byteCells l) w' := by
    intro p h
    have hlt := h.lt
    obtain ⟨hB, v', hbk, hown, hne⟩ := h
    refine ⟨hB, v', ?_, hown.kept hg (ownF_apart hown hs (by decide)), hne⟩
    refine (hg.block b hlt fun e => ?_).trans hbk
    rcases hs.2 with ⟨rfl, _⟩ | ⟨k, cap, cur, rfl, _, hk, _⟩
    · simp [Value.ownBlock] at e
    · have e : b = k := by simpa [Value.ownBlock] using e
      subst e
      rw [hbk] at hk
      injection hk with hk
      injection hk with _ h2
      exact absurd h2 (by decide)
  exact h.elim (fun x => .inl (key _ x)) (fun x => .inr (key _ x))
theorem isB_block {B b : Nat} {l : List UInt8} {w : World} (h : IsB B b l w) : ∃ cs, w.heap[b]? = some (.cells cs 78 (0, 0)) := by
  rcases h with ⟨_, v, h, _⟩ | ⟨_, v, h, _⟩
  · exact ⟨_, h⟩
  · exact ⟨_, h⟩
theorem own_others {w w' : World} {base B b n : Nat} {l : List UInt8} {v : Value} {xs : List Value} (h : w.ownsRow base 9 1 v n xs) (hb : IsB B b l w) (hk : Lib.OthersKept 5 (some b) w w') : w'.ownsRow base 9 1 v n xs := by
  obtain ⟨cs, hb⟩ := isB_block hb
  obtain ⟨h1, h2⟩ := h
  refine ⟨h1, ?_⟩
  rcases h2 with h2 | ⟨g, cap, cur, hv, hB, hg, h3⟩
  · exact .inl h2
  · refine .inr ⟨g, cap, cur, hv, hB, hk g _ hg ?_ ?_, h3⟩
    · intro e
      injection e with e
      subst e
      rw [hb] at hg
      injection hg with hg
      injection hg with _ h2
      exact absurd h2 (by decide)
    · intro c fz e
      injection e with _ h2
      exact absurd h2 (by decide)
theorem full_others {w w' : World} {b g : Nat} {B : Nat} {l : List UInt8} {cs : List Value} (h : Full w g 98 cs) (hb : IsB B b l w) (hk : Lib.OthersKept 5 (some b) w w') : Full w' g 98 cs := by
  obtain ⟨c2, hb⟩ := isB_block hb
  refine hk g _ h ?_ ?_
  · intro e
    injection e with e
    subst e
    unfold Full at h
    rw [hb] at h
    injection h with hg
    injection hg with _ h2
    exact absurd h2 (by decide)
  · intro c fz e
    injection e with _ h2
    exact absurd h2 (by decide)
/-- The builder in block B, the part's row, the copy of a row in block xb. -/
structure JS (w : World) (B xb : Nat) (cs : List Value) (wx : World) (pv : Value) (part : List (List UInt8)) (acc : List UInt8) : Prop where
  bld : IsB B B acc wx
  row : wx.ownsRow B 9 1 pv part.length (strs part)
  below : Below B w wx
  lt : B < wx.heap.size
  copy : Full wx xb 98 cs
section
variable {w wx w' : World} {B xb : Nat} {cs : List Value} {pv : Value} {part : List (List UInt8)} {acc : List UInt8}
theorem JS.step (h : JS w B xb cs wx pv part acc) (hb : Below wx.heap.size wx w') : JS w B xb cs w' pv part acc :=
  ⟨isB_after h.bld hb, own_below h.row hb, h.below.trans (hb.mono (Nat.le_of_lt h.lt)), Nat.lt_of_lt_of_le h.lt hb.size, h.copy.below hb h.copy.lt⟩
theorem JS.wrote (h : JS w B xb cs wx pv part acc) {acc' : List UInt8} (hw : Wrote B B acc' wx w') : JS w B xb cs w' pv part acc' :=
  ⟨hw.1.is, own_others h.row h.bld hw.2.2, h.below.trans hw.2.1, Nat.lt_of_lt_of_le h.lt hw.2.1.size, full_others h.copy h.bld hw.2.2⟩
theorem JS.push (h : JS w B xb cs wx pv part acc) {x : List UInt8} {o : Obj} {pv' : Value} (hown : w'.ownsRow B 9 1 pv' (part.length + 1) (strs part ++ [.string ⟨x.toArray⟩])) (hg : (wx.alloc o).grownBy w' pv.ownBlock) : JS w B xb cs w' pv' (part ++ [x]) acc := by
  have ha := h.step ((Below.refl wx.heap.size wx).alloc (Nat.le_refl _) o)
  refine ⟨isB_grown ha.bld ha.row hg, ?_, ha.below.grown hg (Nat.le_of_lt ha.lt) (fun k hk => (ha.row.lt k hk).1), Nat.lt_of_lt_of_le ha.lt hg.size, ha.copy.grown hg (own_far ha.row ha.copy (by decide))⟩
  have hl : (part ++ [x]).length = part.length + 1 := by simp
  rw [hl]
  have he : strs (part ++ [x]) = strs part ++ [.string ⟨x.toArray⟩] := by simp [strs]
  rw [he]
  exact hown
end
theorem Tryz.infoStrQ : (Tryz.prog.info? 9).map (fun i => (i.zero, i.size, i.bytes)) = some (some (.string ⟨#[]⟩), 1, 16) := by kernel_rfl
theorem Sl.below2 {w w' : World} {v : Value} {xs : List Value} {B : Nat} (h : Sl w v xs) (hB : w.heap.size = B) (hb : Below B w w') : Sl w' v xs := h.below (by rw [hB]; exact hb)
set_option maxRecDepth 100000 in
set_option maxHeartbeats 8000000 in
theorem joined_c {w : World} {B0 rb cap : Nat} {rs : List (QR × Value)} (hown : w.ownsRow B0 98 3 (.slice (some ⟨rb, 0, none⟩) rs.length cap) rs.length (rowsCells rs)) (htx : ∀ x ∈ rs, Sl w x.2 (Lib.byteCells x.1.1)) (hs : totQ rs + rs.length ≤ 10000000) :
    Calls Tryz.prog 77 #[.slice (some ⟨rb, 0, none⟩) rs.length cap] w fun e w' => e = .returned (.string ⟨(joinQ (rs.map Prod.fst)).toArray⟩) ∧ Below w.heap.size w w' := by
  obtain ⟨T, hT⟩ : ∃ T, T = joinQ (rs.map Prod.fst) := ⟨_, rfl⟩
  rw [← hT]
  have HT : Hid (jnF (rs.map Prod.fst) false 0 [] [] = T) := Lib.hid hT.symm
  have HO := Lib.hid hown
  have HX := Lib.hid htx
  clear hT hown htx
  generalize hB : w.heap.size = B at *
  have hI0 : IsB B B [] (w.alloc (.cells #[.pointer none, .slice none 0 0] 78)) := by subst hB; exact Lib.IsBuilderF.of (Lib.fresh_isBuilder 78 5 w)
  have hBA : Below B w (w.alloc (.cells #[.pointer none, .slice none 0 0] 78)) := by subst hB; exact (Below.refl _ _).alloc (Nat.le_refl _) _
  have hBz : B < (w.alloc (.cells #[.pointer none, .slice none 0 0] 78)).heap.size := by subst hB; simp
  have HBB := Lib.hid hB
  go_enter Tryz.func77, Tryz.ntmps77
  go_wp2_with fail
  generalize w.alloc (.cells #[.pointer none, .slice none 0 0] 78) = w0 at *
  go_loopw [4, 5, 6, 11] (fun s4 s5 s6 s11 wr => ∃ (k b : Nat) (td : Bool) (part : List (List UInt8)) (acc : List UInt8), k ≤ rs.length ∧ b ≤ k ∧ s11 = .int .i64 k ∧ s5 = .int .i64 b ∧ s6 = .bool td ∧ wr.ownsRow B 9 1 s4 part.length (strs part) ∧ IsB B B acc wr ∧ Below B w wr ∧ B < wr.heap.size ∧ acc.length + sumL part + totQ (rs.drop k) + (rs.length - k) + b ≤ 10000000 ∧ Hid (jnF ((rs.drop k).map Prod.fst) td b part acc = T)) (fun _ _ _ s11 _ => rs.length - (intOf s11).toNat)
  case atStart => exact ⟨0, 0, false, [], [], Nat.zero_le _, Nat.le_refl _, rfl, rfl, rfl, own_nil _ _ _, hI0, hBA, hBz, by simp [sumL]; omega, HT⟩
  case round =>
    obtain ⟨k, b, td, part, acc, hk, hbk, rfl, rfl, rfl, hrow, hI, hbw, hz, hsz, HR⟩ := hrel
    by_cases hlt : k < rs.length
    · have hdr : rs.drop k = rs[k]'hlt :: rs.drop (k + 1) := List.drop_eq_getElem_cons hlt
      have hmem := List.getElem_mem hlt
      obtain ⟨⟨⟨tx, fx, xt⟩, tv⟩, he⟩ : ∃ x, rs[k]'hlt = x := ⟨_, rfl⟩
      have hrbl : rb < w.heap.size := (HO.out.lt rb rfl).2
      have hcell : ∀ j, j < 3 → w.cell? ⟨rb, k * 3 + j, none⟩ = (rowCells (tx, fx, xt) tv)[j]? := by
        intro j hj
        rw [HO.out.cellAt _ (by omega)]
        have : rowsCells rs = rowsCells (rs.take k) ++ rowsCells (rs.drop k) := by unfold rowsCells; rw [← List.flatMap_append, List.take_append_drop]
        rw [this, List.getElem?_append_right (by rw [rowsCells_len, List.length_take]; omega), rowsCells_len, List.length_take, Nat.min_eq_left (by omega), hdr, he]
        show (rowCells (tx, fx, xt) tv ++ rowsCells (rs.drop (k + 1)))[k * 3 + j - k * 3]? = _
        rw [show k * 3 + j - k * 3 = j by omega, List.getElem?_append_left (by exact hj)]
      have x0 : wr.cell? ⟨rb, k * 3, none⟩ = some tv := (hbw.cell (p := ⟨rb, k * 3, none⟩) (by rw [← HBB.out]; exact hrbl)).trans (hcell 0 (by omega))
      have x1 : wr.cell? ⟨rb, k * 3 + 1, none⟩ = some (.int .i64 fx) := (hbw.cell (p := ⟨rb, k * 3 + 1, none⟩) (by rw [← HBB.out]; exact hrbl)).trans (hcell 1 (by omega))
      have x2 : wr.cell? ⟨rb, k * 3 + 2, none⟩ = some (.bool xt) := (hbw.cell (p := ⟨rb, k * 3 + 2, none⟩) (by rw [← HBB.out]; exact hrbl)).trans (hcell 2 (by omega))
      have hm2 : ((tx, fx, xt), tv) ∈ rs := he ▸ hmem
      obtain ⟨ta, tn, tc, rfl⟩ := (HX.out _ hm2).form
      have HSl := Lib.hid (HX.out _ hm2)
      clear hmem hcell hm2
      go_upto_region 8 with fail
      have htn : tn = tx.length := by have := (HSl.out.load (P := Tryz.prog)).1; rw [Lib.byteCells_length] at this; exact this
      subst htn
      have htq : totQ (rs.drop k) = tx.length + totQ (rs.drop (k + 1)) := by rw [hdr, he]; simp [totQ]
      have HD : Hid ((rs.drop k).map Prod.fst = (tx, fx, xt) :: (rs.drop (k + 1)).map Prod.fst) := Lib.hid (by rw [hdr, he]; rfl)
      have HN : Hid ((rs.drop (k + 1)).map Prod.fst ≠ [] ↔ k + 1 < rs.length) := Lib.hid (by
        rw [Ne, List.map_eq_nil_iff, List.drop_eq_nil_iff]
        omega)
      have J : Hid (JS w B wr.heap.size [.slice ta tx.length tc, .int .i64 fx, .bool xt] (wr.alloc (.cells #[.slice ta tx.length tc, .int .i64 fx, .bool xt] 98)) u4 part acc) := Lib.hid
        ⟨Lib.IsBuilderF.alloc hI _, hrow.alloc _, hbw.alloc (Nat.le_of_lt hz) _, by simp; omega, Full.new _ _ _⟩
      have hd0 : (wr.alloc (.cells #[.slice ta tx.length tc, .int .i64 fx, .bool xt] 98)).cell? ⟨wr.heap.size, 0, none⟩ = some (.slice ta tx.length tc) := J.out.copy.cell 0
      have hd2 : (wr.alloc (.cells #[.slice ta tx.length tc, .int .i64 fx, .bool xt] 98)).cell? ⟨wr.heap.size, 2, none⟩ = some (.bool xt) := J.out.copy.cell 2
      clear hdr he hrow hI hbw hz x0 x1 x2
      generalize wr.alloc (.cells #[.slice ta tx.length tc, .int .i64 fx, .bool xt] 98) = W at *
      generalize wr.heap.size = xb at *
      obtain ⟨SK, hSK⟩ : ∃ SK, SK = (td && decide (tx = []) && !xt && decide (k + 1 < rs.length)) := ⟨_, rfl⟩
      have HSK := Lib.hid hSK
      clear hSK
      go_cut [34] from 16 to 34 (fun s wx => s = .bool SK ∧ wx = W)
      case first =>
        cases td with
        | false =>
          have HS2 : Hid (SK = false) := Lib.hid HSK.out
          clear HSK
          go_wp2_with fail
          go_meet
          exact ⟨by rw [HS2.out], rfl⟩
        | true =>
          by_cases hx : tx = []
          · have gx : ((tx.length : Int) == 0) = true := by rw [hx]; rfl
            cases xt with
            | true =>
              have HS2 : Hid (SK = false) := Lib.hid (by rw [HSK.out, decide_eq_true hx]; rfl)
              clear HSK hx
              go_wp2_with fail
              go_meet
              exact ⟨by rw [HS2.out], rfl⟩
            | false =>
              by_cases hk2 : k + 1 < rs.length
              · have HS2 : Hid (SK = true) := Lib.hid (by rw [HSK.out, decide_eq_true hx, decide_eq_true hk2]; rfl)
                have gk : (k : Int) < (rs.length : Int) - 1 := by omega
                clear HSK hx
                go_wp2_with fail
                go_meet
                exact ⟨by rw [HS2.out], rfl⟩
              · have HS2 : Hid (SK = false) := Lib.hid (by rw [HSK.out, decide_eq_false hk2, Bool.and_false])
                have gk : ¬ (k : Int) < (rs.length : Int) - 1 := by omega
                clear HSK hx
                go_wp2_with fail
                go_meet
                exact ⟨by rw [HS2.out], rfl⟩
          · have gx : ((tx.length : Int) == 0) = false := by
              rw [beq_eq_false_iff_ne]
              have := List.length_pos_iff.2 hx
              omega
            have HS2 : Hid (SK = false) := Lib.hid (by rw [HSK.out, decide_eq_false hx]; simp)
            clear HSK hx
            go_wp2_with fail
            go_meet
            exact ⟨by rw [HS2.out], rfl⟩
      case rest =>
        obtain ⟨rfl, rfl⟩ := hcut
        cases SK with
        | true =>
          have hs4 := HSK.out
          rw [eq_comm, Bool.and_eq_true, Bool.and_eq_true, Bool.and_eq_true] at hs4
          obtain ⟨⟨⟨htd, hx⟩, hxt⟩, hk2⟩ := hs4
          have hx := of_decide_eq_true hx
          have hk2 := of_decide_eq_true hk2
          have HR2 : Hid (jnF ((rs.drop (k + 1)).map Prod.fst) true (b + 1) part acc = T) := Lib.hid (by
            have h1 := HR.out
            rw [HD.out, jnF, if_pos ⟨htd, hx, by simpa using hxt, HN.out.2 hk2⟩] at h1
            exact h1)
          subst htd
          clear HR HD HN HSK hx hxt
          go_wp2_with fail
          go_round
          case rel => exact ⟨k + 1, b + 1, true, part, acc, by omega, by omega, by go_num, by go_num, rfl, J.out.row, J.out.bld, J.out.below, J.out.lt, by omega, HR2⟩
          case measure => simp [intOf]; omega
        | false =>
          obtain ⟨acc2, ha2⟩ : ∃ acc2, acc2 = if td then acc ++ List.replicate b 10 else acc := ⟨_, rfl⟩
          have hal : acc2.length ≤ acc.length + b := by rw [ha2]; split <;> simp
          have HR2 : Hid ((if xt = true then jnF ((rs.drop (k + 1)).map Prod.fst) true 0 [] (acc2 ++ flowM (part ++ [tx])) else jnF ((rs.drop (k + 1)).map Prod.fst) false 0 (part ++ [tx]) acc2) = T) := Lib.hid (by
            have h1 := HR.out
            rw [HD.out, jnF, if_neg (fun h => by
              have := HSK.out
              have hx1 : tx = [] := h.2.1
              have hx2 : xt = false := h.2.2.1
              rw [h.1, decide_eq_true hx1, hx2, decide_eq_true (HN.out.1 h.2.2.2)] at this
              cases this)] at h1
            rw [ha2]
            exact h1)
          have HA2 := Lib.hid ha2
          clear ha2 HR HD HN HSK
          go_upto_if 37 with fail
          go_cut [] from 38 to 40 (fun wx => JS w B xb [.slice ta tx.length tc, .int .i64 fx, .bool xt] wx u4 part acc2)
          case first =>
            cases td with
            | false =>
              go_wp2_with fail
              go_meet
              rw [HA2.out]
              exact J.out
            | true =>
              have hR := fun w => reps_c b w (by omega)
              have hbl : (List.replicate b (10 : UInt8)).length = b := List.length_replicate
              generalize List.replicate b (10 : UInt8) = sp at *
              go_wp2_with fail
              refine (hR _).mono ?_
              rintro e w1 ⟨rfl, b1⟩
              have J1 := Lib.hid (J.out.step b1)
              go_wp2_with fail
              refine (bldStr_c B B acc sp _ J1.out.bld (by omega) (Nat.le_of_lt J1.out.lt)).mono ?_
              rintro e w2 ⟨n2, rfl, h2⟩
              have J2 := Lib.hid (J1.out.wrote h2)
              go_wp2_with fail
              go_meet
              rw [HA2.out]
              exact J2.out
          case rest =>
            have J2 := Lib.hid hcut
            clear hcut hd0 hd2 J HA2
            go_upto_region 12 with fail
            go_cut [4] from 41 to 46 (fun s4 wx => JS w B xb [.slice ta tx.length tc, .int .i64 fx, .bool xt] wx s4 (part ++ [tx]) acc2)
            case first =>
              have hcv := fun h => run_str_of (P := Tryz.prog) (w := wc) 76 9 5 (.slice ta tx.length tc) tx h Tryz.underlying76 Tryz.underlying5 Tryz.underlying9
              have hcv := hcv (HSl.out.below2 HBB.out J2.out.below)
              have d0 : wc.cell? ⟨xb, 0, none⟩ = some (.slice ta tx.length tc) := J2.out.copy.cell 0
              obtain ⟨i0, hi, hz0, hz1, hz2⟩ := info_parts Tryz.infoStrQ
              have hpl := sumL_length part
              have hn1 : part.length + 1 ≤ maxLen := by unfold maxLen; omega
              have hn2 : (part.length + 1) * 16 ≤ 140737488355328 := by omega
              have hrow := J2.out.row
              go_wp2_with (at_builtin; go_loud (refine wpList_pushRow rfl _ _ 39 rfl B 9 i0 (.string ⟨#[]⟩) 1 16 Tryz.underlying39 hi hz0 hz1 hz2 rfl (by omega) u4 _ _ #[.string ⟨tx.toArray⟩] rfl hrow rfl rfl (by simp [Value.oneCell']) hn1 hn2 (Nat.le_of_lt J2.out.lt) ?_); intro rb2 cap2 w5 hown5 hgrow5)
              go_meet
              exact J2.out.push hown5 hgrow5
            case rest =>
              have J3 := Lib.hid hcut
              clear hcut J2 HSl
              have d2 : wc.cell? ⟨xb, 2, none⟩ = some (.bool xt) := J3.out.copy.cell 2
              have hsp := sumL_snoc part tx
              cases xt with
              | false =>
                have HR3 : Hid (jnF ((rs.drop (k + 1)).map Prod.fst) false 0 (part ++ [tx]) acc2 = T) := Lib.hid HR2.out
                clear HR2
                go_wp2_with fail
                go_quiet (fail)
                go_wp2_with fail
                go_round
                case rel => exact ⟨k + 1, 0, false, part ++ [tx], acc2, by omega, by omega, by go_num, rfl, rfl, (J3.out.step (below_drewN (Below.refl _ _) _)).row, (J3.out.step (below_drewN (Below.refl _ _) _)).bld, (J3.out.step (below_drewN (Below.refl _ _) _)).below, (J3.out.step (below_drewN (Below.refl _ _) _)).lt, by omega, HR3⟩
                case measure => simp [intOf]; omega
              | true =>
                have HR3 : Hid (jnF ((rs.drop (k + 1)).map Prod.fst) true 0 [] (acc2 ++ flowM (part ++ [tx])) = T) := Lib.hid HR2.out
                have hF : (flowM (part ++ [tx])).length ≤ sumL (part ++ [tx]) := flowF_len (part ++ [tx]) true 0
                have hFl := fun w h => fflow_c u4 (part ++ [tx]) w h (by omega)
                generalize flowM (part ++ [tx]) = ft at *
                clear HR2
                go_wp2_with fail
                go_quiet (fail)
                go_wp2_with fail
                have J4 := Lib.hid (fun m => J3.out.step (below_drewN (Below.refl _ _) m))
                refine (hFl _ (Slc.own (J4.out _).row)).mono ?_
                rintro e w1 ⟨rfl, b1⟩
                have J5 := Lib.hid ((J4.out _).step b1)
                go_wp2_with fail
                refine (bldStr_c B B acc2 ft _ J5.out.bld (by omega) (Nat.le_of_lt J5.out.lt)).mono ?_
                rintro e w2 ⟨n2, rfl, h2⟩
                have J6 := Lib.hid (J5.out.wrote h2)
                go_wp2_with fail
                go_round
                case rel => exact ⟨k + 1, 0, true, [], acc2 ++ ft, by omega, by omega, by go_num, rfl, rfl, own_nil _ _ _, J6.out.bld, J6.out.below, J6.out.lt, by rw [List.length_append]; simp [sumL]; omega, HR3⟩
                case measure => simp [intOf]; omega
    · obtain rfl : k = rs.length := by omega
      have HR2 : Hid (acc ++ flowM part = T) := Lib.hid (by
        have h1 := HR.out
        rw [List.drop_length, List.map_nil, jnF] at h1
        exact h1)
      have hF : (flowM part).length ≤ sumL part := flowF_len part true 0
      have hFl := fun w h => fflow_c u4 part w h (by omega)
      have HI := Lib.hid hI
      have HRow := Lib.hid hrow
      clear HR HX HO hI hrow
      generalize flowM part = ft at *
      go_wp2_with fail
      refine (Tryz.Builder_String_any_k B B _ _ HI.out (Nat.le_of_lt hz)).mono ?_
      rintro e w1 ⟨rfl, hI1, b1, ho1⟩
      have hrow1 := own_others HRow.out HI.out ho1
      go_wp2_with fail
      refine (hFl _ (Slc.own hrow1)).mono ?_
      rintro e w2 ⟨rfl, b2⟩
      go_wp2_with fail
      go_ret
      exact ⟨ret_str HR2.out, (hbw.trans b1).trans (b2.mono (Nat.le_of_lt (Nat.lt_of_lt_of_le hz b1.size)))⟩
end Go.Proofs.YtjfgcbikdibjeaaGreatDoor
