/- The walk of bosketlaw15.NoteRows. -/
import Derived.Test.YtjnmgmepolpcdaaDoorLawNoteTabs
import Derived.Test.YtjnmgmepolpcdaaDoorPNote3
import Derived.Test.YtjnmgmepolpcdaaDoorWWord
namespace Go.Proofs.YtjnmgmepolpcdaaDoor
open Go.RowKit U Go.Proofs

theorem next_ok : ∀ j, j < 4 → (nextL.getD j []).length ≤ 5 := by decide
theorem word_ok2 : ∀ w ∈ wordList, (∀ b ∈ w, b ≠ 10) ∧ cutW w = w := by decide
theorem word_ok (n : Int) : WordOK (wordOf n) := word_ok2 _ (wordOf_mem n)
/-- The rows by numbers. -/
def rowAt (ws ins gaps : List Int) (i : Nat) : NRow := (if i < gaps.length then low (gaps.getD i 0) 3 else 0, if i < ins.length then low (ins.getD i 0) 4 else 0, wordOf (ws.getD i 0))
def rowsTo (ws ins gaps : List Int) (i : Nat) : List NRow := (List.range i).map (rowAt ws ins gaps)
theorem rowsTo_succ (ws ins gaps : List Int) (i : Nat) : rowsTo ws ins gaps (i + 1) = rowsTo ws ins gaps i ++ [rowAt ws ins gaps i] := by simp [rowsTo, List.range_succ]
theorem rowsTo_len (ws ins gaps : List Int) (i : Nat) : (rowsTo ws ins gaps i).length = i := by simp [rowsTo]
theorem rowsTo_ok (ws ins gaps : List Int) (i : Nat) : ∀ r ∈ rowsTo ws ins gaps i, WordOK r.2.2 := by
  intro r hr
  obtain ⟨j, _, rfl⟩ := List.mem_map.1 hr
  exact word_ok _
/-- A value that holds comments in memory of the call's own. -/
def OV (w0 w : World) (v : Value) (xs : Notes) : Prop := w.ownsRow w0.heap.size 38 2 v xs.length (cmts xs)
theorem OV.step {w0 w w' : World} {v : Value} {xs : Notes} (h : OV w0 w v xs) (hb : Below w.heap.size w w') : OV w0 w' v xs :=
  World.ownsRow.kept (row := none) h ⟨hb.os, hb.tape, hb.output, hb.size, fun k hk _ => hb.block k hk⟩ (by cases hv : v.ownBlock <;> simp)
set_option maxRecDepth 100000 in
set_option maxHeartbeats 16000000 in
theorem noteRows_c (ws : List Int) (wv : Value) (ins : List Int) (iv : Value) (gaps : List Int) (gv : Value) (bes : Bool) (nx : Int) (w : World) (hE : Env w)
    (hw : Sl w wv (ws.map fun x : Int => Value.int .i64 x)) (_hww : ∀ x ∈ ws, (Lit.int .i64 x).wf = true) (_hws : ws.length ≤ 9223372036854775807)
    (hi : Sl w iv (ins.map fun x : Int => Value.int .i64 x)) (_hiw : ∀ x ∈ ins, (Lit.int .i64 x).wf = true) (his : ins.length ≤ 9223372036854775807)
    (hg : Sl w gv (gaps.map fun x : Int => Value.int .i64 x)) (_hgw : ∀ x ∈ gaps, (Lit.int .i64 x).wf = true) (hgs : gaps.length ≤ 9223372036854775807)
    (_n1 : -9223372036854775808 ≤ nx) (_n2 : nx ≤ 9223372036854775807) :
    Calls Tryd.prog 9 #[wv, iv, gv, .bool bes, .int .i64 nx] w fun e w' => e = .returned (.bool true) ∧ Below w.heap.size w w' := by
  have hA := At.refl hE
  obtain ⟨wa, wc, rfl, hwc⟩ := Sl.ints (k := .i64) hw
  obtain ⟨ia, ic, rfl, hic⟩ := Sl.ints (k := .i64) hi
  obtain ⟨ga, gc, rfl, hgc⟩ := Sl.ints (k := .i64) hg
  have HW := Lib.hid hwc
  have HI := Lib.hid hic
  have HG := Lib.hid hgc
  clear hwc hic hgc hw hi hg
  by_cases hk : 8 < ws.length
  · go_enter Tryd.func9, Tryd.ntmps9
    go_wp2_with (go_at_call 22; refine (awake15_c _ hA.env).mono ?_; rintro e w1 ⟨rfl, hb⟩; have hA := hA.step hb; clear hb)
    go_ret
    exact ⟨rfl, hA.below⟩
  go_enter Tryd.func9, Tryd.ntmps9
  go_wp2_with fail
  go_loopw [11, 12, 13] (fun s v i wr => ∃ (k : Nat) (t : List UInt8) (xs : Notes), k ≤ ws.length ∧ s = .string ⟨t.toArray⟩ ∧ t.length ≤ 1 + 20 * k ∧ i = .int .i64 k ∧ xs.length ≤ k ∧ Hid (t = nTx bes (rowsTo ws ins gaps k) ∧ xs = nWant bes (rowsTo ws ins gaps k)) ∧ OV w wr v xs ∧ At w wr) (fun _ _ i _ => ws.length - (intOf i).toNat)
  case atStart => exact ⟨0, [119], [], Nat.zero_le _, rfl, by decide, rfl, Nat.le_refl _, Lib.hid ⟨(nTx_nil bes).1.symm, (nTx_nil bes).2.symm⟩, World.ownsRow_nil _ _ _ _, hA⟩
  case round =>
    obtain ⟨k, t, xs, hkk, rfl, htk, rfl, hxk, HT, hov, hA⟩ := hrel
    by_cases hlt : k < ws.length
    · obtain ⟨b, off, rfl, hb, hck0⟩ := HW.out k hlt
      have hgA : (rowAt ws ins gaps k).1 ≤ 2 := by
        unfold rowAt
        simp only
        split
        · have := low_lt (gaps.getD k 0) 3 (by omega); omega
        · omega
      have hiA : (rowAt ws ins gaps k).2.1 ≤ 3 := by
        unfold rowAt
        simp only
        split
        · have := low_lt (ins.getD k 0) 4 (by omega); omega
        · omega
      have hwl := (wordOf_len (ws.getD k 0)).2
      have hgi : (k < gaps.length → (rowAt ws ins gaps k).1 = low (gaps.getD k 0) 3) ∧ (¬ k < gaps.length → (rowAt ws ins gaps k).1 = 0) := ⟨fun h => if_pos h, fun h => if_neg h⟩
      have hii : (k < ins.length → (rowAt ws ins gaps k).2.1 = low (ins.getD k 0) 4) ∧ (¬ k < ins.length → (rowAt ws ins gaps k).2.1 = 0) := ⟨fun h => if_pos h, fun h => if_neg h⟩
      have hwi : (rowAt ws ins gaps k).2.2 = wordOf (ws.getD k 0) := rfl
      have hsn := nTx_snoc bes (rowsTo ws ins gaps k) (rowAt ws ins gaps k)
      have hone := nTx_one (rowAt ws ins gaps k)
      have hsc := rowsTo_succ ws ins gaps k
      have hln := rowsTo_len ws ins gaps k
      obtain ⟨RS2, hR2⟩ : ∃ R, rowsTo ws ins gaps (k + 1) = R := ⟨_, rfl⟩
      rw [hR2] at hsc
      have HQ := Lib.hid hR2
      clear hR2
      have HT0 := HT
      generalize hRS : rowsTo ws ins gaps k = RS at *
      generalize hRA : rowAt ws ins gaps k = ra at *
      obtain ⟨gp, nn, wd⟩ := ra
      simp only at hgA hiA hgi hii hwi hsn hone
      rw [← hwi] at hwl
      have hxw : ws.getD k 0 = ws[k]'hlt := by simp [List.getD_eq_getElem?_getD, hlt]
      have hck : wr.cell? ⟨b, off + k, none⟩ = some (.int .i64 (ws[k]'hlt)) := (hA.below.cell (p := ⟨b, off + k, none⟩) hb).trans hck0
      rw [hxw] at hwi
      clear hxw hck0 hRS hRA HT
      generalize (ws[k]'hlt) = x at *
      have hword := fun w => word_c x w
      rw [← hwi] at hword
      clear hwi
      go_upto_if 40 with fail
      go_cut [14] (fun s wx => s = .int .i64 nn ∧ wx = wr)
      case first =>
        by_cases hI : k < ins.length
        · obtain ⟨b2, off2, rfl, hb2, hc0⟩ := HI.out k hI
          have hc : wr.cell? ⟨b2, off2 + k, none⟩ = some (.int .i64 (ins[k]'hI)) := (hA.below.cell (p := ⟨b2, off2 + k, none⟩) hb2).trans hc0
          have hy := hii.1 hI
          have hxw : ins.getD k 0 = ins[k]'hI := by simp [List.getD_eq_getElem?_getD, hI]
          rw [hxw] at hy
          generalize (ins[k]'hI) = y at *
          have hLow := fun w => lit_low y 4 nn w (by omega) (by omega) hy.symm
          clear hxw hc0 hy hii hgi hsn hone hsc hln hword
          go_wp2_with fail
          refine (hLow _).mono ?_
          rintro e w2 ⟨rfl, hw2⟩
          obtain rfl := hw2.symm
          go_wp2_with fail
          go_meet
          exact ⟨rfl, rfl⟩
        · obtain rfl := hii.2 hI
          clear hii hgi hsn hone hsc hln hword
          go_wp2_with fail
          go_meet
          exact ⟨rfl, rfl⟩
      case rest =>
        obtain ⟨rfl, rfl⟩ := hcut
        go_upto_if 49 with fail
        go_cut [15] (fun s wx => s = .int .i64 gp ∧ wx = wc)
        case first =>
          by_cases hI : k < gaps.length
          · obtain ⟨b2, off2, rfl, hb2, hc0⟩ := HG.out k hI
            have hc : wc.cell? ⟨b2, off2 + k, none⟩ = some (.int .i64 (gaps[k]'hI)) := (hA.below.cell (p := ⟨b2, off2 + k, none⟩) hb2).trans hc0
            have hy := hgi.1 hI
            have hxw : gaps.getD k 0 = gaps[k]'hI := by simp [List.getD_eq_getElem?_getD, hI]
            rw [hxw] at hy
            generalize (gaps[k]'hI) = y at *
            have hLow := fun w => lit_low y 3 gp w (by omega) (by omega) hy.symm
            clear hxw hc0 hy hii hgi hsn hone hsc hln hword
            go_wp2_with fail
            refine (hLow _).mono ?_
            rintro e w2 ⟨rfl, hw2⟩
            obtain rfl := hw2.symm
            go_wp2_with fail
            go_meet
            exact ⟨rfl, rfl⟩
          · obtain rfl := hgi.2 hI
            clear hii hgi hsn hone hsc hln hword
            go_wp2_with fail
            go_meet
            exact ⟨rfl, rfl⟩
        case rest =>
          obtain ⟨rfl, rfl⟩ := hcut
          clear hgi hii
          go_wp2_with fail
          refine (hword _).mono ?_
          rintro e w1 ⟨rfl, hb1⟩
          have hA := hA.step hb1
          have hov := hov.step hb1
          clear hb1 hck hword
          obtain ⟨va, vc, rfl⟩ := own_shape hov
          obtain ⟨i0, hi, hz0, hz1, hz2⟩ := info_parts Tryd.infoComment
          have hn1 : xs.length + 1 ≤ maxLen := by unfold maxLen; omega
          have hn2 : (xs.length + 1) * 24 ≤ 140737488355328 := by omega
          have hwr := hA.below.size
          by_cases h0 : k = 0 ∧ bes = true
          · obtain ⟨rfl, rfl⟩ := h0
            obtain rfl : RS = [] := List.eq_nil_of_length_eq_zero hln
            obtain ⟨e1, e2⟩ := HT0.out
            have HR : Hid (t ++ ([32, 35] ++ wd) = nTx true RS2 ∧ xs ++ [(wd, 0)] = nWant true RS2) := Lib.hid (by
              rw [hsc, e1, e2, (nTx_nil true).1, (nTx_nil true).2, List.nil_append, hone.1, hone.2]
              exact ⟨rfl, rfl⟩)
            clear hsn hone hsc hln e1 e2 HT0
            go_wp2_with (at_builtin; refine wpList_append_lies _ (by rfl) _ _ 36 (by rfl) w.heap.size 38 i0 _ 2 24 Tryd.underlying36 hi hz0 hz1 hz2 rfl (by omega) (.slice va xs.length vc) xs.length (cmts xs) (by rfl) (World.ownsRow.alloc hov _) ⟨w1.heap.size, 0, none⟩ 1 1 [.string ⟨wd.toArray⟩, .int .i64 0] (by rfl) (by rfl) (World.news_of_block (cs := #[.string ⟨wd.toArray⟩, .int .i64 0]) (t := 38) (fr := (0, 0)) (heap_alloc_new w1 _)) (by simp [Value.oneCell']) (by omega) hn1 hn2 (by simp; omega) _ rfl ?_; intro gg cap w5 hown5 hgrow5 _ _)
            go_roundw
            case rel => exact ⟨1, _, xs ++ [(wd, 0)], by omega, rfl, by simp; omega, by go_num, by rw [List.length_append]; show xs.length + 1 ≤ 1; omega, Lib.hid (by rw [show rowsTo ws ins gaps 1 = RS2 from HQ.out, ← HR.out.1, ← HR.out.2]; exact ⟨by simp, rfl⟩), by unfold OV; rw [List.length_append, cmts_snoc]; exact hown5, ⟨hE, (hA.below.alloc (by omega) _).grown hgrow5 (by simp; omega) (fun k hk => (World.ownsRow.lt hov k hk).1)⟩⟩
            case measure => simp [intOf]; omega
          · have hne : ¬ (RS = [] ∧ bes = true) := fun h => h0 ⟨by rw [← hln, h.1]; rfl, h.2⟩
            obtain ⟨f1, f2⟩ := hsn hne
            obtain ⟨e1, e2⟩ := HT0.out
            have HR : Hid (t ++ nrow (gp, nn, wd) = nTx bes RS2 ∧ xs ++ [(wd, gp)] = nWant bes RS2) := Lib.hid (by rw [hsc, f1, f2, e1, e2]; exact ⟨rfl, rfl⟩)
            have hF := fun w => feeds_c gp w (by omega)
            have hBl := fun w => blanks_c nn w (by omega)
            clear hone hsn hsc e1 e2 f1 f2 HT0
            go_upto_region 14 with fail
            go_cut [64] (fun s wx => s = .bool false ∧ wx = w1)
            case first =>
              by_cases hk0 : k = 0
              · have g0 : ((k : Int) == 0) = true := by rw [hk0]; rfl
                obtain rfl : bes = false := by
                  cases bes with
                  | false => rfl
                  | true => exact absurd ⟨hk0, rfl⟩ h0
                clear hk0 h0 hne
                go_wp2_with fail
                go_meet
                exact ⟨rfl, rfl⟩
              · have g0 : ((k : Int) == 0) = false := by rw [beq_eq_false_iff_ne]; omega
                clear hk0 h0 hne
                go_wp2_with fail
                go_meet
                exact ⟨rfl, rfl⟩
            case rest =>
              obtain ⟨rfl, rfl⟩ := hcut
              have hlf : (List.replicate gp (10 : UInt8)).length ≤ 2 := by simp; omega
              have hlb : (List.replicate nn (32 : UInt8)).length ≤ 3 := by simp; omega
              have HR2 : Hid (t ++ ([10] ++ (List.replicate gp 10 ++ (List.replicate nn 32 ++ ([35] ++ (wd ++ [32, 32]))))) = nTx bes RS2) := Lib.hid (by rw [← HR.out.1]; simp [nrow])
              generalize List.replicate gp (10 : UInt8) = fs at *
              generalize List.replicate nn (32 : UInt8) = bs at *
              clear h0 hne
              go_wp2_with fail
              refine (hF _).mono ?_
              rintro e w2 ⟨rfl, rfl⟩
              go_wp2_with fail
              refine (hBl _).mono ?_
              rintro e w2 ⟨rfl, rfl⟩
              go_wp2_with (at_builtin; refine wpList_append_lies _ (by rfl) _ _ 36 (by rfl) w.heap.size 38 i0 _ 2 24 Tryd.underlying36 hi hz0 hz1 hz2 rfl (by omega) (.slice va xs.length vc) xs.length (cmts xs) (by rfl) (World.ownsRow.alloc hov _) ⟨wc.heap.size, 0, none⟩ 1 1 [.string ⟨wd.toArray⟩, .int .i64 gp] (by rfl) (by rfl) (World.news_of_block (cs := #[.string ⟨wd.toArray⟩, .int .i64 gp]) (t := 38) (fr := (0, 0)) (heap_alloc_new wc _)) (by simp [Value.oneCell']) (by omega) hn1 hn2 (by simp; omega) _ rfl ?_; intro gg cap w5 hown5 hgrow5 _ _)
              go_roundw
              case rel => exact ⟨k + 1, _, xs ++ [(wd, gp)], by omega, rfl, by simp; omega, by go_num, by rw [List.length_append]; simp; omega, Lib.hid (by rw [HQ.out, ← HR2.out, ← HR.out.2]; exact ⟨by simp, rfl⟩), by unfold OV; rw [List.length_append, cmts_snoc]; exact hown5, ⟨hE, (hA.below.alloc (by omega) _).grown hgrow5 (by simp; omega) (fun k hk => (World.ownsRow.lt hov k hk).1)⟩⟩
              case measure => simp [intOf]; omega
    · obtain rfl : k = ws.length := by omega
      have hj := lit_low nx 4 (low nx 4)
      have hj4 := low_lt nx 4 (by omega)
      generalize low nx 4 = j at *
      have hLow := fun w => hj w (by omega) (by omega) rfl
      clear hj
      go_wp2_with fail
      refine (hLow _).mono ?_
      rintro e w2 ⟨rfl, hw2⟩
      obtain rfl := hw2.symm
      obtain ⟨e1, e2⟩ := HT.out
      have hrl := rowsTo_len ws ins gaps ws.length
      have hro := rowsTo_ok ws ins gaps ws.length
      generalize rowsTo ws ins gaps ws.length = RS at *
      have cj := lit_cell wr 9 (strs nextL) j _ (lit_at (xs := nextL) hj4)
      change (wr.alloc (.cells #[.string ⟨#[122]⟩, .string ⟨#[45, 45, 45, 32, 122]⟩, .string ⟨#[46, 46, 46]⟩, .string ⟨#[]⟩] 9)).cell? ⟨wr.heap.size, j, none⟩ = _ at cj
      have hms := made_skip (t ++ 10 :: nextL.getD j []) bes RS j hj4 hro (by rw [e1])
      have hmw := made_within (t ++ 10 :: nextL.getD j []) bes RS j hj4 hro (by rw [e1])
      have hnl := next_ok j hj4
      generalize nextL.getD j [] = p at *
      have hj0 : (0 : Int) ≤ (j : Int) := by omega
      have hj1 : (j : Int) < 4 := by omega
      have hxs : xs.length ≤ 8 := by omega
      have hL1 : heldM (t ++ 10 :: p) 1 = 1 := heldM_nat (p := 1) (by rw [List.length_append, List.length_cons]; omega)
      have hLs : (t ++ 10 :: p).length ≤ 1000 := by simp; omega
      have h1 := fun w => skip_c (t ++ 10 :: p) 1 w (by omega)
      have h2 := fun w => within_c (t ++ 10 :: p) 1 (-1) w (by omega)
      rw [hL1] at h1 h2
      have hat : (((nTx bes RS).length + 1 : Nat) : Int) = (t.length : Int) + 1 := by rw [← e1]; omega
      rw [hms] at h1
      rw [hat, ← e2] at h1 hmw
      have hbw : (bes && !RS.isEmpty) = (bes && decide (0 < ws.length)) := by
        rw [← hrl]
        have : (!RS.isEmpty) = decide (0 < RS.length) := by
          cases RS with
          | nil => rfl
          | cons r q => exact (decide_eq_true (show 0 < (r :: q).length by simp)).symm
        rw [this]
      rw [hbw] at h1 hmw
      have hov := hov.step ((Below.refl _ _).alloc (Nat.le_refl _) (.cells #[.string ⟨#[122]⟩, .string ⟨#[45, 45, 45, 32, 122]⟩, .string ⟨#[46, 46, 46]⟩, .string ⟨#[]⟩] 9))
      have hA := hA.alloc (.cells #[.string ⟨#[122]⟩, .string ⟨#[45, 45, 45, 32, 122]⟩, .string ⟨#[46, 46, 46]⟩, .string ⟨#[]⟩] 9)
      clear hms hat hbw e1 e2 hrl hro HT hL1 hj4
      generalize hbb : (bes && decide (0 < ws.length)) = bb at *
      have gb : ((bes && decide (0 < (ws.length : Int))) = bb) := by rw [← hbb]; simp
      have HM := Lib.hid hmw
      have hcase : (bes = false ∧ bb = false) ∨ (bes = true ∧ 0 < ws.length ∧ bb = true) ∨ (bes = true ∧ ¬ 0 < ws.length ∧ bb = false) := by
        cases bes with
        | false => exact .inl ⟨rfl, hbb.symm⟩
        | true =>
          rcases Nat.eq_zero_or_pos ws.length with h | h
          · exact .inr (.inr ⟨rfl, by omega, by rw [← hbb, h]; rfl⟩)
          · exact .inr (.inl ⟨rfl, h, by rw [← hbb, decide_eq_true h]; rfl⟩)
      clear hmw hbb gb
      go_wp2_with fail
      refine (h1 _).mono ?_
      rintro e w3 ⟨v1, rfl, hown1, hb1⟩
      have hA := hA.step hb1
      have hov := hov.step hb1
      have hn1 := NV.of hown1
      clear hown1 hb1 cj
      by_cases hm : j = 1 ∨ j = 2
      · have hmw := HM.out
        rw [if_pos hm] at hmw
        rw [hmw] at h2
        clear hmw HM
        go_wp2_with fail
        refine (h2 _).mono ?_
        rintro e w4 ⟨v2, rfl, hown2, hb2⟩
        have hA := hA.step hb2
        have hov := hov.step hb2
        have hn1 := hn1.below hb2
        have hn2 := NV.of hown2
        obtain ⟨a2, c2, rfl⟩ := own_shape hown2
        clear hown2 hb2
        go_upto_region 24 with fail
        go_cut [140] (fun s wx => s = .bool false ∧ ∃ nq, wx = w4.drewN nq)
        case first =>
          rcases hcase with ⟨rfl, rfl⟩ | ⟨rfl, h0, rfl⟩ | ⟨rfl, h0, rfl⟩
          all_goals
            go_wp2_with fail
            refine (comments_c xs _ _ _ hn1 (NV.of hov) (by omega)).mono ?_
            rintro e w5 ⟨rfl, n5, rfl⟩
            go_wp2_with fail
            go_meet
            exact ⟨rfl, n5, rfl⟩
        case rest =>
          obtain ⟨rfl, nq, rfl⟩ := hcut
          have hA := hA.drewN nq
          have hdd := below_drewN (Below.refl w4.heap.size w4) nq
          have hov := hov.step hdd
          have hn2 := hn2.below hdd
          clear hcase hn1 h1 h2 hdd
          rcases hm with rfl | rfl
          all_goals
            go_wp2_with fail
            refine (awake15_c _ hA.env).mono ?_
            rintro e w6 ⟨rfl, hb⟩
            have hA := hA.step hb
            go_wp2_with fail
            go_ret
            exact ⟨rfl, hA.below⟩
      · have hmw := HM.out
        rw [if_neg hm] at hmw
        rw [hmw] at h2
        clear hmw HM
        go_wp2_with fail
        refine (h2 _).mono ?_
        rintro e w4 ⟨v2, rfl, hown2, hb2⟩
        have hA := hA.step hb2
        have hov := hov.step hb2
        have hn1 := hn1.below hb2
        have hn2 := NV.of hown2
        obtain ⟨a2, c2, rfl⟩ := own_shape hown2
        clear hown2 hb2
        go_upto_region 24 with fail
        go_cut [140] (fun s wx => s = .bool false ∧ ∃ nq, wx = w4.drewN nq)
        case first =>
          rcases hcase with ⟨rfl, rfl⟩ | ⟨rfl, h0, rfl⟩ | ⟨rfl, h0, rfl⟩
          all_goals
            go_wp2_with fail
            refine (comments_c xs _ _ _ hn1 (NV.of hov) (by omega)).mono ?_
            rintro e w5 ⟨rfl, n5, rfl⟩
            go_wp2_with fail
            go_meet
            exact ⟨rfl, n5, rfl⟩
        case rest =>
          obtain ⟨rfl, nq, rfl⟩ := hcut
          have hA := hA.drewN nq
          have hdd := below_drewN (Below.refl w4.heap.size w4) nq
          have hov := hov.step hdd
          have hn2 := hn2.below hdd
          clear hcase hn1 h1 h2 hdd
          have g1 : ((j : Int) == 1) = false := by rw [beq_eq_false_iff_ne]; omega
          have g2 : ((j : Int) == 2) = false := by rw [beq_eq_false_iff_ne]; omega
          go_wp2_with fail
          refine (comments_c xs _ _ _ hn2 (NV.of hov) (by omega)).mono ?_
          rintro e w5 ⟨rfl, n5, hw5⟩
          have hA := hA.step (w' := w5) (by rw [hw5]; exact below_drewN (Below.refl _ _) n5)
          clear hw5
          go_wp2_with fail
          refine (awake15_c _ hA.env).mono ?_
          rintro e w6 ⟨rfl, hb⟩
          have hA := hA.step hb
          go_wp2_with fail
          go_ret
          exact ⟨by simp, hA.below⟩
end Go.Proofs.YtjnmgmepolpcdaaDoor
