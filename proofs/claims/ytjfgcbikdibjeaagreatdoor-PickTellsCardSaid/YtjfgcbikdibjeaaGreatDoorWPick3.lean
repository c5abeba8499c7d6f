/- The walks of package pick: which style a scalar has, how it is told in one row. -/
import Derived.Test.YtjfgcbikdibjeaaGreatDoorWPick2
import Derived.Test.YtjfgcbikdibjeaaGreatDoorWTag
import Derived.Test.YtjfgcbikdibjeaaGreatDoorWQuote
import Derived.Test.YtjfgcbikdibjeaaGreatDoorFrame
namespace Go.Proofs.YtjfgcbikdibjeaaGreatDoor
open Go.RowKit U Go.Proofs

/-- A scalar's node, and a configuration, as cells. -/
def scCells (k st at' bl : Int) (tg t : List UInt8) : List Value := [.int .i64 k, .int .i64 st, .int .i64 at', .int .i64 bl, .string ⟨#[]⟩, .string ⟨tg.toArray⟩, .string ⟨t.toArray⟩, .slice none 0 0, .slice none 0 0, .slice none 0 0, .bool false, .string ⟨#[]⟩]
def cfCells (wd ind bl : Int) (single block mark flat bare : Bool) : List Value := [.int .i64 wd, .int .i64 ind, .int .i64 bl, .bool single, .bool block, .bool mark, .bool flat, .bool bare]
structure NC (w : World) (g g' : Nat) (cs ds : List Value) : Prop where
  node : Full w g 28 cs
  conf : Full w g' 24 ds
theorem NC.below {w w' : World} {g g' : Nat} {cs ds : List Value} (h : NC w g g' cs ds) (hb : Below w.heap.size w w') : NC w' g g' cs ds := ⟨h.node.below hb h.node.lt, h.conf.below hb h.conf.lt⟩
set_option maxRecDepth 100000 in
set_option maxHeartbeats 8000000 in
theorem style_c (k at' nb wd ind bl : Int) (st : Nat) (tg t : List UInt8) (single block mark flat bare flow row : Bool) (w : World) (hE : Env w) (hs : t.length ≤ 1000000) (hst : st ≤ 100) :
    Calls Tryz.prog 18 #[.agg (scCells k st at' nb tg t).toArray, .agg (cfCells wd ind bl single block mark flat bare).toArray, .bool flow, .bool row] w fun e w' =>
      e = .returned (.int .i64 (styleM t st (!tg.isEmpty) single bare flow row)) ∧ Below w.heap.size w w' := by
  obtain ⟨S, hS⟩ : ∃ S, S = styleM t st (!tg.isEmpty) single bare flow row := ⟨_, rfl⟩
  rw [← hS]
  unfold styleM at hS
  have hP := fun w hE => pplain_c t flow w hE hs
  have hL := fun w hE => literal_c t w hE hs
  have hT := fun w => tag_c t w (by omega)
  have hLg := fun w => coreLong_c [115, 116, 114] w (by decide)
  have hSg := fun w hE => single_c t w hE (by omega)
  have hA0 : At w ((w.alloc (.cells (scCells k st at' nb tg t).toArray 28)).alloc (.cells (cfCells wd ind bl single block mark flat bare).toArray 24)) := ((At.refl hE).alloc _).alloc _
  have hN0 : NC ((w.alloc (.cells (scCells k st at' nb tg t).toArray 28)).alloc (.cells (cfCells wd ind bl single block mark flat bare).toArray 24)) w.heap.size (w.heap.size + 1) (scCells k st at' nb tg t) (cfCells wd ind bl single block mark flat bare) :=
    ⟨(Full.new w _ _).alloc _, by have := Full.new (w.alloc (.cells (scCells k st at' nb tg t).toArray 28)) 24 (cfCells wd ind bl single block mark flat bare); rw [show (w.alloc (.cells (scCells k st at' nb tg t).toArray 28)).heap.size = w.heap.size + 1 by simp] at this; exact this⟩
  have hCw : (longOf (coreP t) == longOf [115, 116, 114]) = decide (coreP t = wStr) := by
    rw [Bool.eq_iff_iff, beq_iff_eq, decide_eq_true_iff]
    unfold longOf wStr
    exact ⟨fun h => List.append_cancel_left h, fun h => by rw [h]⟩
  generalize longOf (coreP t) = ct at *
  generalize longOf [115, 116, 114] = lg at *
  have hS2 : S = if (decide (st = 1) && (t.isEmpty || plainM t flow)) = true then 1 else if (decide (st = 4 ∨ st = 5) && !row && literalM t) = true then 4 else if (bare && decide (st ≠ 1) && tg.isEmpty && plainM t flow && decide (coreP t = wStr)) = true then 1 else if (single && singleM t) = true then 2 else 3 := by
    rw [hS]
    have e1 : (st = 1 ∧ (t = [] ∨ plainM t flow = true)) ↔ (decide (st = 1) && (t.isEmpty || plainM t flow)) = true := by simp [List.isEmpty_iff]
    have e2 : ((st = 4 ∨ st = 5) ∧ row = false ∧ literalM t = true) ↔ (decide (st = 4 ∨ st = 5) && !row && literalM t) = true := by simp [and_assoc]
    have e3 : (bare = true ∧ st ≠ 1 ∧ (!tg.isEmpty) = false ∧ plainM t flow = true ∧ coreP t = wStr) ↔ (bare && decide (st ≠ 1) && tg.isEmpty && plainM t flow && decide (coreP t = wStr)) = true := by simp [and_assoc]
    have e4 : (single = true ∧ singleM t = true) ↔ (single && singleM t) = true := by simp
    simp only [e1, e2, e3, e4]
  rw [← hCw] at hS2
  clear hS hCw
  obtain ⟨CE, hce⟩ : ∃ CE, (ct == lg) = CE := ⟨_, rfl⟩
  rw [hce] at hS2
  generalize plainM t flow = P at *
  generalize literalM t = L at *
  generalize singleM t = SG at *
  obtain ⟨X1, hX1⟩ : ∃ X1, X1 = (decide (st = 1) && (t.isEmpty || P)) := ⟨_, rfl⟩
  obtain ⟨BK, hBK⟩ : ∃ BK, BK = decide (st = 4 ∨ st = 5) := ⟨_, rfl⟩
  obtain ⟨X2, hX2⟩ : ∃ X2, X2 = (BK && !row && L) := ⟨_, rfl⟩
  obtain ⟨X3, hX3⟩ : ∃ X3, X3 = (bare && decide (st ≠ 1) && tg.isEmpty && P && CE) := ⟨_, rfl⟩
  obtain ⟨X4, hX4⟩ : ∃ X4, X4 = (single && SG) := ⟨_, rfl⟩
  rw [← hX1, ← hBK, ← hX2, ← hX3, ← hX4] at hS2
  have HS := Lib.hid hS2
  have H1 := Lib.hid hX1
  have HB := Lib.hid hBK
  have H2 := Lib.hid hX2
  have H3 := Lib.hid hX3
  have H4 := Lib.hid hX4
  have HCE := Lib.hid hce
  clear hS2 hX1 hX2 hX3 hX4 hBK hce
  have HA0 := Lib.hid hA0
  have HN0 := Lib.hid hN0
  clear hA0 hN0
  unfold scCells cfCells
  go_enter Tryz.func18, Tryz.ntmps18
  go_upto_region 1 with fail
  have hA := HA0.out
  have hN := HN0.out
  unfold scCells cfCells at hA hN
  generalize (w.alloc (.cells #[.int .i64 k, .int .i64 st, .int .i64 at', .int .i64 nb, .string ⟨#[]⟩, .string ⟨tg.toArray⟩, .string ⟨t.toArray⟩, .slice none 0 0, .slice none 0 0, .slice none 0 0, .bool false, .string ⟨#[]⟩] 28)).alloc (.cells #[.int .i64 wd, .int .i64 ind, .int .i64 bl, .bool single, .bool block, .bool mark, .bool flat, .bool bare] 24) = W at *
  clear HA0 HN0
  have e1 : ((st : Int) == 1) = decide (st = 1) := by rw [Bool.eq_iff_iff, beq_iff_eq, decide_eq_true_iff]; omega
  have e1n : ((st : Int) != 1) = decide (st ≠ 1) := by rw [Bool.eq_iff_iff, bne_iff_ne, decide_eq_true_iff]; omega
  have HST := Lib.hid (And.intro e1 e1n)
  clear e1 e1n
  have x6 : W.cell? ⟨w.heap.size, 6, none⟩ = some (.string ⟨t.toArray⟩) := hN.node.cell 6
  go_wp2_with fail
  refine (hP _ hA.env).mono ?_
  rintro e w1 ⟨rfl, hb1⟩
  have hA := hA.step hb1
  have hN := hN.below hb1
  clear hb1 x6 hP
  have x1 : w1.cell? ⟨w.heap.size, 1, none⟩ = some (.int .i64 st) := hN.node.cell 1
  have x5 : w1.cell? ⟨w.heap.size, 5, none⟩ = some (.string ⟨tg.toArray⟩) := hN.node.cell 5
  have x6 : w1.cell? ⟨w.heap.size, 6, none⟩ = some (.string ⟨t.toArray⟩) := hN.node.cell 6
  go_upto_region 2 with fail
  go_cut [10] from 15 to 22 (fun s wx => s = .bool BK ∧ w1 = wx)
  case first =>
    have hb := HB.out
    clear HS H1 H2 H3 H4 HB HST HCE
    by_cases h4 : st = 4
    · obtain rfl : BK = true := by rw [hb]; exact decide_eq_true (.inl h4)
      subst h4
      clear hb
      go_wp2_with fail
      go_meet
      exact ⟨rfl, rfl⟩
    by_cases h5 : st = 5
    · obtain rfl : BK = true := by rw [hb]; exact decide_eq_true (.inr h5)
      subst h5
      clear hb h4
      go_wp2_with fail
      go_meet
      exact ⟨rfl, rfl⟩
    · obtain rfl : BK = false := by rw [hb]; exact decide_eq_false (by omega)
      have g4 : ((st : Int) == 4) = false := by rw [beq_eq_false_iff_ne]; omega
      have g5 : ((st : Int) == 5) = false := by rw [beq_eq_false_iff_ne]; omega
      clear hb h4 h5
      go_wp2_with fail
      go_meet
      exact ⟨rfl, rfl⟩
  case rest =>
    obtain ⟨rfl, rfl⟩ := hcut
    clear HB
    go_upto_region 3 with fail
    go_cut [23] from 24 to 34 (fun s wx => s = .bool X1 ∧ w1 = wx)
    case first =>
      have h := H1.out
      have e1 := HST.out.1
      clear HS H1 H2 H3 H4 HST HCE
      by_cases h1 : st = 1
      · rw [decide_eq_true h1] at h e1
        cases t with
        | nil =>
          obtain rfl : X1 = true := h
          clear h1
          go_wp2_with fail
          go_meet
          exact ⟨rfl, rfl⟩
        | cons b tl =>
          obtain rfl : X1 = P := h
          clear h1
          go_wp2_with fail
          go_meet
          exact ⟨rfl, rfl⟩
      · rw [decide_eq_false h1] at h e1
        obtain rfl : X1 = false := h
        clear h1
        go_wp2_with fail
        go_meet
        exact ⟨rfl, rfl⟩
    case rest =>
      obtain ⟨rfl, rfl⟩ := hcut
      clear H1
      cases X1 with
      | true =>
        have HF : Hid (S = 1) := Lib.hid (by rw [HS.out, if_pos rfl])
        clear HS H2 H3 H4 HST HCE
        go_wp2_with fail
        go_ret
        exact ⟨ret_int (by rw [HF.out]; rfl), hA.below⟩
      | false =>
        have HS : Hid (S = if X2 = true then 4 else if X3 = true then 1 else if X4 = true then 2 else 3) := Lib.hid (by rw [HS.out, if_neg (by decide)])
        go_upto_region 5 with fail
        go_cut [35] from 36 to 45 (fun s wx => s = .bool X2 ∧ At w wx ∧ NC wx w.heap.size (w.heap.size + 1) [.int .i64 k, .int .i64 st, .int .i64 at', .int .i64 nb, .string ⟨#[]⟩, .string ⟨tg.toArray⟩, .string ⟨t.toArray⟩, .slice none 0 0, .slice none 0 0, .slice none 0 0, .bool false, .string ⟨#[]⟩] [.int .i64 wd, .int .i64 ind, .int .i64 bl, .bool single, .bool block, .bool mark, .bool flat, .bool bare])
        case first =>
          have h := H2.out
          clear HS H2 H3 H4 HST HCE
          cases BK with
          | false =>
            obtain rfl : X2 = false := h
            go_wp2_with fail
            go_meet
            exact ⟨rfl, hA, hN⟩
          | true =>
            cases row with
            | true =>
              obtain rfl : X2 = false := h
              go_wp2_with fail
              go_meet
              exact ⟨rfl, hA, hN⟩
            | false =>
              obtain rfl : X2 = L := h
              go_wp2_with fail
              refine (hL _ hA.env).mono ?_
              rintro e w2 ⟨rfl, hb2⟩
              go_wp2_with fail
              go_meet
              exact ⟨rfl, hA.step hb2, hN.below hb2⟩
        case rest =>
          obtain ⟨rfl, hA2, hN2⟩ := hcut
          clear H2 x1 x5 x6 hN hA
          have hA := hA2
          have hN := hN2
          clear hA2 hN2
          cases X2 with
          | true =>
            have HF : Hid (S = 4) := Lib.hid (by rw [HS.out, if_pos rfl])
            clear HS H3 H4 HST HCE
            go_wp2_with fail
            go_ret
            exact ⟨ret_int (by rw [HF.out]; rfl), hA.below⟩
          | false =>
            have HS : Hid (S = if X3 = true then 1 else if X4 = true then 2 else 3) := Lib.hid (by rw [HS.out, if_neg (by decide)])
            have x1 : wc.cell? ⟨w.heap.size, 1, none⟩ = some (.int .i64 st) := hN.node.cell 1
            have x5 : wc.cell? ⟨w.heap.size, 5, none⟩ = some (.string ⟨tg.toArray⟩) := hN.node.cell 5
            have x6 : wc.cell? ⟨w.heap.size, 6, none⟩ = some (.string ⟨t.toArray⟩) := hN.node.cell 6
            have y7 : wc.cell? ⟨w.heap.size + 1, 7, none⟩ = some (.bool bare) := hN.conf.cell 7
            obtain ⟨w4, hw4⟩ : ∃ w4, w4 = wc := ⟨_, rfl⟩
            subst hw4
            go_upto_region 7 with fail
            go_cut [46] from 47 to 68 (fun s wx => s = .bool X3 ∧ At w wx ∧ NC wx w.heap.size (w.heap.size + 1) [.int .i64 k, .int .i64 st, .int .i64 at', .int .i64 nb, .string ⟨#[]⟩, .string ⟨tg.toArray⟩, .string ⟨t.toArray⟩, .slice none 0 0, .slice none 0 0, .slice none 0 0, .bool false, .string ⟨#[]⟩] [.int .i64 wd, .int .i64 ind, .int .i64 bl, .bool single, .bool block, .bool mark, .bool flat, .bool bare])
            case first =>
              have h := H3.out
              have e1n := HST.out.2
              have hce := HCE.out
              clear HS H3 H4 HST HCE
              generalize decide (st ≠ 1) = D1 at *
              cases bare with
              | false =>
                obtain rfl : X3 = false := h
                go_wp2_with fail
                go_meet
                exact ⟨rfl, hA, hN⟩
              | true =>
                cases D1 with
                | false =>
                  obtain rfl : X3 = false := h
                  go_wp2_with fail
                  go_meet
                  exact ⟨rfl, hA, hN⟩
                | true =>
                  cases tg with
                  | cons b tl =>
                    obtain rfl : X3 = false := h
                    go_wp2_with fail
                    go_meet
                    exact ⟨rfl, hA, hN⟩
                  | nil =>
                    cases P with
                    | false =>
                      obtain rfl : X3 = false := h
                      go_wp2_with fail
                      go_meet
                      exact ⟨rfl, hA, hN⟩
                    | true =>
                      obtain rfl : X3 = CE := h
                      go_wp2_with fail
                      refine (hT _).mono ?_
                      rintro e w5 ⟨rfl, hb5⟩
                      go_wp2_with fail
                      refine (hLg _).mono ?_
                      rintro e w6 ⟨rfl, rfl⟩
                      go_wp2_with fail
                      go_meet
                      exact ⟨rfl, hA.step hb5, hN.below hb5⟩
            case rest =>
              obtain ⟨rfl, hA2, hN2⟩ := hcut
              clear H3 x1 x5 x6 y7 hN hA hT hLg HCE HST
              cases X3 with
              | true =>
                have HF : Hid (S = 1) := Lib.hid (by rw [HS.out, if_pos rfl])
                clear HS H4
                go_wp2_with fail
                go_ret
                exact ⟨ret_int (by rw [HF.out]; rfl), hA2.below⟩
              | false =>
                have HS : Hid (S = if X4 = true then 2 else 3) := Lib.hid (by rw [HS.out, if_neg (by decide)])
                have x6 : wc.cell? ⟨w.heap.size, 6, none⟩ = some (.string ⟨t.toArray⟩) := hN2.node.cell 6
                have y3 : wc.cell? ⟨w.heap.size + 1, 3, none⟩ = some (.bool single) := hN2.conf.cell 3
                have h4 := H4.out
                clear H4
                cases single with
                | false =>
                  have HF : Hid (S = 3) := Lib.hid (by rw [HS.out, h4]; rfl)
                  clear HS h4
                  go_wp2_with fail
                  go_ret
                  exact ⟨ret_int (by rw [HF.out]; rfl), hA2.below⟩
                | true =>
                  have h4 : X4 = SG := h4
                  cases SG with
                  | true =>
                    have HF : Hid (S = 2) := Lib.hid (by rw [HS.out, h4]; rfl)
                    clear HS h4
                    go_wp2_with fail
                    refine (hSg _ hA2.env).mono ?_
                    rintro e w5 ⟨rfl, hb5⟩
                    go_wp2_with fail
                    go_ret
                    exact ⟨ret_int (by rw [HF.out]; rfl), (hA2.step hb5).below⟩
                  | false =>
                    have HF : Hid (S = 3) := Lib.hid (by rw [HS.out, h4]; rfl)
                    clear HS h4
                    go_wp2_with fail
                    refine (hSg _ hA2.env).mono ?_
                    rintro e w5 ⟨rfl, hb5⟩
                    go_wp2_with fail
                    go_ret
                    exact ⟨ret_int (by rw [HF.out]; rfl), (hA2.step hb5).below⟩
end Go.Proofs.YtjfgcbikdibjeaaGreatDoor
