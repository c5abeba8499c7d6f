/- The walks of the document's answer of 23.2: which style a scalar has, how it is told in one row. -/
import Derived.Test.YtjfgcbikdibjeaaGreatDoorWRefPick2
import Derived.Test.YtjfgcbikdibjeaaGreatDoorWRefTag
import Derived.Test.YtjfgcbikdibjeaaGreatDoorPAllA
import Derived.Test.YtjfgcbikdibjeaaGreatDoorWPick3
namespace Go.Proofs.YtjfgcbikdibjeaaGreatDoor
open Go.RowKit U Go.Proofs

set_option maxRecDepth 100000 in
set_option maxHeartbeats 8000000 in
theorem rstyle22_c (k at' nb wd ind bl : Int) (st : Nat) (tg t : List UInt8) (single block mark flat bare flow row : Bool) (w : World) (hE : Env w) (hs : t.length ≤ 1000000) (hst : st ≤ 100) :
    Calls Tryz.prog 19 #[.agg (scCells k st at' nb tg t).toArray, .agg (cfCells wd ind bl single block mark flat bare).toArray, .bool flow, .bool row] w fun e w' =>
      e = .returned (.int .i64 (styleM t st (!tg.isEmpty) single bare flow row)) ∧ Below w.heap.size w w' := by
  obtain ⟨S, hS⟩ : ∃ S, S = styleM t st (!tg.isEmpty) single bare flow row := ⟨_, rfl⟩
  rw [← hS]
  unfold styleM at hS
  have hP := fun w => rplain22_c t flow w hs
  have hL := fun w => rliteral22_c t w hs
  have hT := fun w => rcore_c t w (by omega)
  rw [← core_eq] at hT
  have hLg := fun w => rlong_c [115, 116, 114] w (by decide)
  have hSg := fun w => rsingle_c t w (by omega)
  have hA0 : At w ((w.alloc (.cells (scCells k st at' nb tg t).toArray 28)).alloc (.cells (cfCells wd ind bl single block mark flat bare).toArray 24)) := ((At.refl hE).alloc _).alloc _
  have hN0 : NC ((w.alloc (.cells (scCells k st at' nb tg t).toArray 28)).alloc (.cells (cfCells wd ind bl single block mark flat bare).toArray 24)) w.heap.size (w.heap.size + 1) (scCells k st at' nb tg t) (cfCells wd ind bl single block mark flat bare) :=
    ⟨(Full.new w _ _).alloc _, by have := Full.new (w.alloc (.cells (scCells k st at' nb tg t).toArray 28)) 24 (cfCells wd ind bl single block mark flat bare); rw [show (w.alloc (.cells (scCells k st at' nb tg t).toArray 28)).heap.size = w.heap.size + 1 by simp] at this; exact this⟩
  have hCw : (longOf (coreP t) == longOf [115, 116, 114]) = decide (coreP t = wStr) := by
    rw [Bool.eq_iff_iff, beq_iff_eq, decide_eq_true_iff]
    unfold longOf wStr
    exact ⟨fun h => List.append_cancel_left h, fun h => by rw [h]⟩
  generalize longOf (coreP t) = ct at *
  generalize longOf [115, 116, 114] = lg at *
  have hS2 : S = if (decide (st = 1) && (t.isEmpty || plainM t flow)) = true then 1 else if (decide (st = 4 ∨ st = 5) && !row && literalM t) = true then 4 else if (bare && decide (st ≠ 1) && tg.isEmpty && plainM t flow && decide (coreP t = wStr)) = true then 1 else if (single && singleM t) = true then 2 else 3 := by
    rw [hS]
    have e1 : (st = 1 ∧ (t = [] ∨ plainM t flow = true)) ↔ (decide (st = 1) && (t.isEmpty || plainM t flow)) = true := by simp [List.isEmpty_iff]
    have e2 : ((st = 4 ∨ st = 5) ∧ row = false ∧ literalM t = true) ↔ (decide (st = 4 ∨ st = 5) && !row && literalM t) = true := by simp [and_assoc]
    have e3 : (bare = true ∧ st ≠ 1 ∧ (!tg.isEmpty) = false ∧ plainM t flow = true ∧ coreP t = wStr) ↔ (bare && decide (st ≠ 1) && tg.isEmpty && plainM t flow && decide (coreP t = wStr)) = true := by simp [and_assoc]
    have e4 : (single = true ∧ singleM t = true) ↔ (single && singleM t) = true := by simp
    simp only [e1, e2, e3, e4]
  rw [← hCw] at hS2
  clear hS hCw
  obtain ⟨CE, hce⟩ : ∃ CE, (ct == lg) = CE := ⟨_, rfl⟩
  rw [hce] at hS2
  generalize plainM t flow = P at *
  generalize literalM t = L at *
  generalize singleM t = SG at *
  obtain ⟨X1, hX1⟩ : ∃ X1, X1 = (decide (st = 1) && (t.isEmpty || P)) := ⟨_, rfl⟩
  obtain ⟨X2, hX2⟩ : ∃ X2, X2 = (decide (st = 4 ∨ st = 5) && !row && L) := ⟨_, rfl⟩
  obtain ⟨X3, hX3⟩ : ∃ X3, X3 = (bare && decide (st ≠ 1) && tg.isEmpty && P && CE) := ⟨_, rfl⟩
  obtain ⟨X4, hX4⟩ : ∃ X4, X4 = (single && SG) := ⟨_, rfl⟩
  rw [← hX1, ← hX2, ← hX3, ← hX4] at hS2
  have HS := Lib.hid hS2
  have H1 := Lib.hid hX1
  have H2 := Lib.hid hX2
  have H3 := Lib.hid hX3
  have H4 := Lib.hid hX4
  have HCE := Lib.hid hce
  clear hS2 hX1 hX2 hX3 hX4 hce
  have HA0 := Lib.hid hA0
  have HN0 := Lib.hid hN0
  clear hA0 hN0
  unfold scCells cfCells
  go_enter Tryz.func19, Tryz.ntmps19
  go_upto_region 1 with fail
  have hA := HA0.out
  have hN := HN0.out
  unfold scCells cfCells at hA hN
  generalize (w.alloc (.cells #[.int .i64 k, .int .i64 st, .int .i64 at', .int .i64 nb, .string ⟨#[]⟩, .string ⟨tg.toArray⟩, .string ⟨t.toArray⟩, .slice none 0 0, .slice none 0 0, .slice none 0 0, .bool false, .string ⟨#[]⟩] 28)).alloc (.cells #[.int .i64 wd, .int .i64 ind, .int .i64 bl, .bool single, .bool block, .bool mark, .bool flat, .bool bare] 24) = W at *
  clear HA0 HN0
  have e1 : ((st : Int) == 1) = decide (st = 1) := by rw [Bool.eq_iff_iff, beq_iff_eq, decide_eq_true_iff]; omega
  have e1n : ((st : Int) != 1) = decide (st ≠ 1) := by rw [Bool.eq_iff_iff, bne_iff_ne, decide_eq_true_iff]; omega
  have HST := Lib.hid (And.intro e1 e1n)
  clear e1 e1n
  have x1 : W.cell? ⟨w.heap.size, 1, none⟩ = some (.int .i64 st) := hN.node.cell 1
  have x6 : W.cell? ⟨w.heap.size, 6, none⟩ = some (.string ⟨t.toArray⟩) := hN.node.cell 6
  go_cut [9] from 10 to 23 (fun s wx => s = .bool X1 ∧ At w wx ∧ NC wx w.heap.size (w.heap.size + 1) [.int .i64 k, .int .i64 st, .int .i64 at', .int .i64 nb, .string ⟨#[]⟩, .string ⟨tg.toArray⟩, .string ⟨t.toArray⟩, .slice none 0 0, .slice none 0 0, .slice none 0 0, .bool false, .string ⟨#[]⟩] [.int .i64 wd, .int .i64 ind, .int .i64 bl, .bool single, .bool block, .bool mark, .bool flat, .bool bare])
  case first =>
    have h := H1.out
    have e1 := HST.out.1
    clear HS H1 H2 H3 H4 HST HCE
    by_cases h1 : st = 1
    · rw [decide_eq_true h1] at h e1
      cases t with
      | nil =>
        obtain rfl : X1 = true := h
        clear h1
        go_wp2_with fail
        go_meet
        exact ⟨rfl, hA, hN⟩
      | cons b tl =>
        obtain rfl : X1 = P := h
        clear h1
        go_wp2_with fail
        refine (hP _).mono ?_
        rintro e w1 ⟨rfl, hb1⟩
        go_wp2_with fail
        go_meet
        exact ⟨rfl, hA.step hb1, hN.below hb1⟩
    · rw [decide_eq_false h1] at h e1
      obtain rfl : X1 = false := h
      clear h1
      go_wp2_with fail
      go_meet
      exact ⟨rfl, hA, hN⟩
  case rest =>
    obtain ⟨rfl, hA1, hN1⟩ := hcut
    clear H1 x1 x6 hA hN
    have hA := hA1
    have hN := hN1
    clear hA1 hN1
    cases X1 with
    | true =>
      have HF : Hid (S = 1) := Lib.hid (by rw [HS.out, if_pos rfl])
      clear HS H2 H3 H4 HST HCE
      go_wp2_with fail
      go_ret
      exact ⟨ret_int (by rw [HF.out]; rfl), hA.below⟩
    | false =>
      have HS : Hid (S = if X2 = true then 4 else if X3 = true then 1 else if X4 = true then 2 else 3) := Lib.hid (by rw [HS.out, if_neg (by decide)])
      have x1 : wc.cell? ⟨w.heap.size, 1, none⟩ = some (.int .i64 st) := hN.node.cell 1
      have x6 : wc.cell? ⟨w.heap.size, 6, none⟩ = some (.string ⟨t.toArray⟩) := hN.node.cell 6
      obtain ⟨w2, hw2⟩ : ∃ w2, w2 = wc := ⟨_, rfl⟩
      subst hw2
      go_upto_region 3 with fail
      go_cut [24] from 25 to 41 (fun s wx => s = .bool X2 ∧ At w wx ∧ NC wx w.heap.size (w.heap.size + 1) [.int .i64 k, .int .i64 st, .int .i64 at', .int .i64 nb, .string ⟨#[]⟩, .string ⟨tg.toArray⟩, .string ⟨t.toArray⟩, .slice none 0 0, .slice none 0 0, .slice none 0 0, .bool false, .string ⟨#[]⟩] [.int .i64 wd, .int .i64 ind, .int .i64 bl, .bool single, .bool block, .bool mark, .bool flat, .bool bare])
      case first =>
        have h := H2.out
        clear HS H2 H3 H4 HST HCE
        by_cases h4 : st = 4
        · rw [decide_eq_true (.inl h4)] at h
          subst h4
          cases row with
          | true =>
            obtain rfl : X2 = false := h
            go_wp2_with fail
            go_meet
            exact ⟨rfl, hA, hN⟩
          | false =>
            obtain rfl : X2 = L := h
            go_wp2_with fail
            refine (hL _).mono ?_
            rintro e w3 ⟨rfl, hb3⟩
            go_wp2_with fail
            go_meet
            exact ⟨rfl, hA.step hb3, hN.below hb3⟩
        by_cases h5 : st = 5
        · rw [decide_eq_true (.inr h5)] at h
          subst h5
          clear h4
          cases row with
          | true =>
            obtain rfl : X2 = false := h
            go_wp2_with fail
            go_meet
            exact ⟨rfl, hA, hN⟩
          | false =>
            obtain rfl : X2 = L := h
            go_wp2_with fail
            refine (hL _).mono ?_
            rintro e w3 ⟨rfl, hb3⟩
            go_wp2_with fail
            go_meet
            exact ⟨rfl, hA.step hb3, hN.below hb3⟩
        · rw [decide_eq_false (by omega)] at h
          obtain rfl : X2 = false := h
          have g4 : ((st : Int) == 4) = false := by rw [beq_eq_false_iff_ne]; omega
          have g5 : ((st : Int) == 5) = false := by rw [beq_eq_false_iff_ne]; omega
          clear h4 h5
          go_wp2_with fail
          go_meet
          exact ⟨rfl, hA, hN⟩
      case rest =>
        obtain ⟨rfl, hA2, hN2⟩ := hcut
        clear H2 x1 x6 hN hA
        have hA := hA2
        have hN := hN2
        clear hA2 hN2
        cases X2 with
        | true =>
          have HF : Hid (S = 4) := Lib.hid (by rw [HS.out, if_pos rfl])
          clear HS H3 H4 HST HCE
          go_wp2_with fail
          go_ret
          exact ⟨ret_int (by rw [HF.out]; rfl), hA.below⟩
        | false =>
          have HS : Hid (S = if X3 = true then 1 else if X4 = true then 2 else 3) := Lib.hid (by rw [HS.out, if_neg (by decide)])
          have x1 : wc.cell? ⟨w.heap.size, 1, none⟩ = some (.int .i64 st) := hN.node.cell 1
          have x5 : wc.cell? ⟨w.heap.size, 5, none⟩ = some (.string ⟨tg.toArray⟩) := hN.node.cell 5
          have x6 : wc.cell? ⟨w.heap.size, 6, none⟩ = some (.string ⟨t.toArray⟩) := hN.node.cell 6
          have y7 : wc.cell? ⟨w.heap.size + 1, 7, none⟩ = some (.bool bare) := hN.conf.cell 7
          obtain ⟨w4, hw4⟩ : ∃ w4, w4 = wc := ⟨_, rfl⟩
          subst hw4
          go_upto_region 5 with fail
          go_cut [42] from 43 to 67 (fun s wx => s = .bool X3 ∧ At w wx ∧ NC wx w.heap.size (w.heap.size + 1) [.int .i64 k, .int .i64 st, .int .i64 at', .int .i64 nb, .string ⟨#[]⟩, .string ⟨tg.toArray⟩, .string ⟨t.toArray⟩, .slice none 0 0, .slice none 0 0, .slice none 0 0, .bool false, .string ⟨#[]⟩] [.int .i64 wd, .int .i64 ind, .int .i64 bl, .bool single, .bool block, .bool mark, .bool flat, .bool bare])
          case first =>
            have h := H3.out
            have e1n := HST.out.2
            have hce := HCE.out
            clear HS H3 H4 HST HCE
            generalize decide (st ≠ 1) = D1 at *
            cases bare with
            | false =>
              obtain rfl : X3 = false := h
              go_wp2_with fail
              go_meet
              exact ⟨rfl, hA, hN⟩
            | true =>
              cases D1 with
              | false =>
                obtain rfl : X3 = false := h
                go_wp2_with fail
                go_meet
                exact ⟨rfl, hA, hN⟩
              | true =>
                cases tg with
                | cons b tl =>
                  obtain rfl : X3 = false := h
                  go_wp2_with fail
                  go_meet
                  exact ⟨rfl, hA, hN⟩
                | nil =>
                  cases P with
                  | false =>
                    obtain rfl : X3 = false := h
                    go_wp2_with fail
                    refine (hP _).mono ?_
                    rintro e w5 ⟨rfl, hb5⟩
                    go_wp2_with fail
                    go_meet
                    exact ⟨rfl, hA.step hb5, hN.below hb5⟩
                  | true =>
                    obtain rfl : X3 = CE := h
                    go_wp2_with fail
                    refine (hP _).mono ?_
                    rintro e w5 ⟨rfl, hb5⟩
                    have hA := hA.step hb5
                    have hN := hN.below hb5
                    clear x1 x5 x6 y7 hb5
                    have x6 : w5.cell? ⟨w.heap.size, 6, none⟩ = some (.string ⟨t.toArray⟩) := hN.node.cell 6
                    go_wp2_with fail
                    refine (hT _).mono ?_
                    rintro e w6 ⟨rfl, rfl⟩
                    go_wp2_with fail
                    refine (hLg _).mono ?_
                    rintro e w6 ⟨rfl, rfl⟩
                    go_wp2_with fail
                    go_meet
                    exact ⟨rfl, hA, hN⟩
          case rest =>
            obtain ⟨rfl, hA2, hN2⟩ := hcut
            clear H3 x1 x5 x6 y7 hN hA hT hLg HCE HST
            cases X3 with
            | true =>
              have HF : Hid (S = 1) := Lib.hid (by rw [HS.out, if_pos rfl])
              clear HS H4
              go_wp2_with fail
              go_ret
              exact ⟨ret_int (by rw [HF.out]; rfl), hA2.below⟩
            | false =>
              have HS : Hid (S = if X4 = true then 2 else 3) := Lib.hid (by rw [HS.out, if_neg (by decide)])
              have x6 : wc.cell? ⟨w.heap.size, 6, none⟩ = some (.string ⟨t.toArray⟩) := hN2.node.cell 6
              have y3 : wc.cell? ⟨w.heap.size + 1, 3, none⟩ = some (.bool single) := hN2.conf.cell 3
              have h4 := H4.out
              clear H4
              cases single with
              | false =>
                have HF : Hid (S = 3) := Lib.hid (by rw [HS.out, h4]; rfl)
                clear HS h4
                go_wp2_with fail
                go_ret
                exact ⟨ret_int (by rw [HF.out]; rfl), hA2.below⟩
              | true =>
                have h4 : X4 = SG := h4
                cases SG with
                | true =>
                  have HF : Hid (S = 2) := Lib.hid (by rw [HS.out, h4]; rfl)
                  clear HS h4
                  go_wp2_with fail
                  refine (hSg _).mono ?_
                  rintro e w5 ⟨rfl, hb5⟩
                  go_wp2_with fail
                  go_ret
                  exact ⟨ret_int (by rw [HF.out]; rfl), (hA2.step hb5).below⟩
                | false =>
                  have HF : Hid (S = 3) := Lib.hid (by rw [HS.out, h4]; rfl)
                  clear HS h4
                  go_wp2_with fail
                  refine (hSg _).mono ?_
                  rintro e w5 ⟨rfl, hb5⟩
                  go_wp2_with fail
                  go_ret
                  exact ⟨ret_int (by rw [HF.out]; rfl), (hA2.step hb5).below⟩
set_option maxRecDepth 100000 in
set_option maxHeartbeats 8000000 in
theorem rscalar22_c (k at' nb wd ind bl : Int) (st : Nat) (tg t : List UInt8) (single block mark flat bare flow : Bool) (w : World) (hE : Env w) (hs : t.length ≤ 1000000) (hst : st ≤ 100) :
    Calls Tryz.prog 21 #[.agg (scCells k st at' nb tg t).toArray, .agg (cfCells wd ind bl single block mark flat bare).toArray, .bool flow] w fun e w' =>
      e = .returned (.string ⟨(showP t st (!tg.isEmpty) single bare flow).toArray⟩) ∧ Below w.heap.size w w' := by
  obtain ⟨R, hR⟩ : ∃ R, R = showP t st (!tg.isEmpty) single bare flow := ⟨_, rfl⟩
  rw [← hR]
  rw [show_ref] at hR
  have hSt := fun w hE => rstyle22_c k at' nb wd ind bl st tg t single block mark flat bare flow true w hE hs hst
  have hQ := fun w => rquote_c t single w hs
  have hA0 : At w ((w.alloc (.cells (scCells k st at' nb tg t).toArray 28)).alloc (.cells (cfCells wd ind bl single block mark flat bare).toArray 24)) := ((At.refl hE).alloc _).alloc _
  have hN0 : NC ((w.alloc (.cells (scCells k st at' nb tg t).toArray 28)).alloc (.cells (cfCells wd ind bl single block mark flat bare).toArray 24)) w.heap.size (w.heap.size + 1) (scCells k st at' nb tg t) (cfCells wd ind bl single block mark flat bare) :=
    ⟨(Full.new w _ _).alloc _, by have := Full.new (w.alloc (.cells (scCells k st at' nb tg t).toArray 28)) 24 (cfCells wd ind bl single block mark flat bare); rw [show (w.alloc (.cells (scCells k st at' nb tg t).toArray 28)).heap.size = w.heap.size + 1 by simp] at this; exact this⟩
  generalize styleM t st (!tg.isEmpty) single bare flow true = X at *
  generalize quoteM t single = q at *
  have HA0 := Lib.hid hA0
  have HN0 := Lib.hid hN0
  have HR := Lib.hid hR
  clear hA0 hN0 hR
  unfold scCells cfCells at *
  go_enter Tryz.func21, Tryz.ntmps21
  go_upto_region 1 with fail
  have hA := HA0.out
  have hN := HN0.out
  generalize (w.alloc (.cells #[.int .i64 k, .int .i64 st, .int .i64 at', .int .i64 nb, .string ⟨#[]⟩, .string ⟨tg.toArray⟩, .string ⟨t.toArray⟩, .slice none 0 0, .slice none 0 0, .slice none 0 0, .bool false, .string ⟨#[]⟩] 28)).alloc (.cells #[.int .i64 wd, .int .i64 ind, .int .i64 bl, .bool single, .bool block, .bool mark, .bool flat, .bool bare] 24) = W at *
  clear HA0 HN0
  have x0 := hN.node.cell 0
  have x1 := hN.node.cell 1
  have x2 := hN.node.cell 2
  have x3 := hN.node.cell 3
  have x4 := hN.node.cell 4
  have x5 := hN.node.cell 5
  have x6 := hN.node.cell 6
  have x7 := hN.node.cell 7
  have x8 := hN.node.cell 8
  have x9 := hN.node.cell 9
  have x10 := hN.node.cell 10
  have x11 := hN.node.cell 11
  have y0 := hN.conf.cell 0
  have y1 := hN.conf.cell 1
  have y2 := hN.conf.cell 2
  have y3 := hN.conf.cell 3
  have y4 := hN.conf.cell 4
  have y5 := hN.conf.cell 5
  have y6 := hN.conf.cell 6
  have y7 := hN.conf.cell 7
  simp only [List.getElem?_cons_zero, List.getElem?_cons_succ] at x0 x1 x2 x3 x4 x5 x6 x7 x8 x9 x10 x11 y0 y1 y2 y3 y4 y5 y6 y7
  go_wp2_with fail
  refine (hSt _ hA.env).mono ?_
  rintro e w1 ⟨rfl, hb1⟩
  have hA := hA.step hb1
  have hN := hN.below hb1
  clear hb1 x0 x1 x2 x3 x4 x5 x6 x7 x8 x9 x10 x11 y0 y1 y2 y3 y4 y5 y6 y7 hSt
  have x6 : w1.cell? ⟨w.heap.size, 6, none⟩ = some (.string ⟨t.toArray⟩) := hN.node.cell 6
  have y3 : w1.cell? ⟨w.heap.size + 1, 3, none⟩ = some (.bool single) := hN.conf.cell 3
  by_cases h1 : X = 1
  · have HF : Hid (R = t) := Lib.hid (by rw [HR.out, if_pos h1])
    subst h1
    clear HR
    go_wp2_with fail
    go_ret
    exact ⟨ret_str (by rw [HF.out]), hA.below⟩
  · have g1 : ((X : Int) == 1) = false := by rw [beq_eq_false_iff_ne]; omega
    have HF : Hid (R = q) := Lib.hid (by rw [HR.out, if_neg h1])
    clear HR h1
    go_wp2_with fail
    refine (hQ _).mono ?_
    rintro e w2 ⟨rfl, hb2⟩
    go_wp2_with fail
    go_ret
    exact ⟨ret_str (by rw [HF.out]), (hA.step hb2).below⟩
end Go.Proofs.YtjfgcbikdibjeaaGreatDoor
