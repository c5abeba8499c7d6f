/- The walks of package pick: Show; what every program answers. -/
import Derived.Test.YtjfgcbikdibjeaaGreatDoorWPick3
import Derived.Test.YtjfgcbikdibjeaaGreatDoorWLow
namespace Go.Proofs.YtjfgcbikdibjeaaGreatDoor
open Go.RowKit U Go.Proofs

theorem showP_len (t : List UInt8) (st : Nat) (tag single bare flow : Bool) : (showP t st tag single bare flow).length ≤ 10 * t.length + 2 := by
  unfold showP
  split
  · omega
  · exact quote_le _ _
set_option maxRecDepth 100000 in
set_option maxHeartbeats 8000000 in
theorem pshow_c (k at' nb wd ind bl : Int) (st : Nat) (tg t : List UInt8) (single block mark flat bare flow : Bool) (w : World) (hE : Env w) (hs : t.length ≤ 1000000) (hst : st ≤ 100)
    (hTz : styleM t st (!tg.isEmpty) single bare flow true ≠ 1 → Tz w) :
    Calls Tryz.prog 20 #[.agg (scCells k st at' nb tg t).toArray, .agg (cfCells wd ind bl single block mark flat bare).toArray, .bool flow] w fun e w' =>
      e = .returned (.string ⟨(showP t st (!tg.isEmpty) single bare flow).toArray⟩) ∧ Below w.heap.size w w' := by
  obtain ⟨R, hR⟩ : ∃ R, R = showP t st (!tg.isEmpty) single bare flow := ⟨_, rfl⟩
  rw [← hR]
  unfold showP at hR
  have hSt := fun w hE => style_c k at' nb wd ind bl st tg t single block mark flat bare flow true w hE hs hst
  have hQ := fun b w hE hT => quote_c t b w hE hT hs
  have hA0 : At w ((w.alloc (.cells (scCells k st at' nb tg t).toArray 28)).alloc (.cells (cfCells wd ind bl single block mark flat bare).toArray 24)) := ((At.refl hE).alloc _).alloc _
  have hN0 : NC ((w.alloc (.cells (scCells k st at' nb tg t).toArray 28)).alloc (.cells (cfCells wd ind bl single block mark flat bare).toArray 24)) w.heap.size (w.heap.size + 1) (scCells k st at' nb tg t) (cfCells wd ind bl single block mark flat bare) :=
    ⟨(Full.new w _ _).alloc _, by have := Full.new (w.alloc (.cells (scCells k st at' nb tg t).toArray 28)) 24 (cfCells wd ind bl single block mark flat bare); rw [show (w.alloc (.cells (scCells k st at' nb tg t).toArray 28)).heap.size = w.heap.size + 1 by simp] at this; exact this⟩
  generalize styleM t st (!tg.isEmpty) single bare flow true = X at *
  have HA0 := Lib.hid hA0
  have HN0 := Lib.hid hN0
  have HR := Lib.hid hR
  have HTZ := Lib.hid hTz
  clear hA0 hN0 hR hTz
  unfold scCells cfCells at *
  go_enter Tryz.func20, Tryz.ntmps20
  go_upto_region 1 with fail
  have hA := HA0.out
  have hN := HN0.out
  generalize (w.alloc (.cells #[.int .i64 k, .int .i64 st, .int .i64 at', .int .i64 nb, .string ⟨#[]⟩, .string ⟨tg.toArray⟩, .string ⟨t.toArray⟩, .slice none 0 0, .slice none 0 0, .slice none 0 0, .bool false, .string ⟨#[]⟩] 28)).alloc (.cells #[.int .i64 wd, .int .i64 ind, .int .i64 bl, .bool single, .bool block, .bool mark, .bool flat, .bool bare] 24) = W at *
  clear HA0 HN0
  have x0 := hN.node.cell 0
  have x1 := hN.node.cell 1
  have x2 := hN.node.cell 2
  have x3 := hN.node.cell 3
  have x4 := hN.node.cell 4
  have x5 := hN.node.cell 5
  have x6 := hN.node.cell 6
  have x7 := hN.node.cell 7
  have x8 := hN.node.cell 8
  have x9 := hN.node.cell 9
  have x10 := hN.node.cell 10
  have x11 := hN.node.cell 11
  have y0 := hN.conf.cell 0
  have y1 := hN.conf.cell 1
  have y2 := hN.conf.cell 2
  have y3 := hN.conf.cell 3
  have y4 := hN.conf.cell 4
  have y5 := hN.conf.cell 5
  have y6 := hN.conf.cell 6
  have y7 := hN.conf.cell 7
  simp only [List.getElem?_cons_zero, List.getElem?_cons_succ] at x0 x1 x2 x3 x4 x5 x6 x7 x8 x9 x10 x11 y0 y1 y2 y3 y4 y5 y6 y7
  go_wp2_with fail
  refine (hSt _ hA.env).mono ?_
  rintro e w1 ⟨rfl, hb1⟩
  have hA := hA.step hb1
  have hN := hN.below hb1
  clear hb1 x0 x1 x2 x3 x4 x5 x6 x7 x8 x9 x10 x11 y0 y1 y2 y3 y4 y5 y6 y7 hSt
  have x6 : w1.cell? ⟨w.heap.size, 6, none⟩ = some (.string ⟨t.toArray⟩) := hN.node.cell 6
  by_cases h1 : X = 1
  · have HF : Hid (R = t) := Lib.hid (by rw [HR.out, if_pos h1])
    subst h1
    clear HR HTZ
    go_wp2_with fail
    go_ret
    exact ⟨ret_str (by rw [HF.out]), hA.below⟩
  · have g1 : ((X : Int) == 1) = false := by rw [beq_eq_false_iff_ne]; omega
    have hTw := (HTZ.out h1).below hA.below
    have HF : Hid (R = quoteM t (decide (X = 2))) := Lib.hid (by rw [HR.out, if_neg h1])
    by_cases h2 : X = 2
    · rw [decide_eq_true h2] at HF
      subst h2
      clear HR HTZ h1
      go_wp2_with fail
      refine (hQ _ _ hA.env hTw).mono ?_
      rintro e w2 ⟨rfl, hb2⟩
      go_wp2_with fail
      go_ret
      exact ⟨ret_str (by rw [HF.out]), (hA.step hb2).below⟩
    · rw [decide_eq_false h2] at HF
      have g2 : ((X : Int) == 2) = false := by rw [beq_eq_false_iff_ne]; omega
      clear HR HTZ h1 h2
      go_wp2_with fail
      refine (hQ _ _ hA.env hTw).mono ?_
      rintro e w2 ⟨rfl, hb2⟩
      go_wp2_with fail
      go_ret
      exact ⟨ret_str (by rw [HF.out]), (hA.step hb2).below⟩
set_option maxRecDepth 100000 in
set_option maxHeartbeats 8000000 in
theorem awake23_c (w : World) (hE : Env w) : Calls Tryz.prog 12 #[] w fun e w' => e = .returned (.bool true) ∧ Below w.heap.size w w' := by
  obtain ⟨p1, p2, p3, p4, p5, p6, p7⟩ := awakeP
  have hA := At.refl hE
  have h1 := fun w hE => pplain_c [97, 44, 32, 98] false w hE (by decide)
  have h2 := fun w hE => pplain_c [97, 44, 32, 98] true w hE (by decide)
  have h3 := fun w hE => pplain_c [97, 58, 32, 98] false w hE (by decide)
  have h4 := fun w hE => literal_c [97, 10] w hE (by decide)
  have h5 := fun w hE => literal_c [32, 97] w hE (by decide)
  have h6 := fun w hE => style_c 1 (-1) 0 0 0 0 2 [] [98] false false false false false false true w hE (by decide) (by decide)
  have h7 := fun w hE => pshow_c 1 (-1) 0 0 0 0 2 [] [98] false false false false true false w hE (by decide) (by decide) (fun h => absurd (by decide +kernel) h)
  have p6 : styleM [98] 2 (!([] : List UInt8).isEmpty) false false false true = 3 := p6
  have p7 : showP [98] 2 (!([] : List UInt8).isEmpty) false true false = [98] := p7
  rw [p1] at h1
  rw [p2] at h2
  rw [p3] at h3
  rw [p4] at h4
  rw [p5] at h5
  rw [p6] at h6
  rw [p7] at h7
  clear p1 p2 p3 p4 p5 p6 p7
  unfold scCells cfCells at h6 h7
  go_enter Tryz.func12, Tryz.ntmps12
  go_upto_region 2 with fail
  have hA := hA.alloc (.cells #[.int .i64 1, .int .i64 2, .int .i64 (-1), .int .i64 0, .string ⟨#[]⟩, .string ⟨#[]⟩, .string ⟨#[98]⟩, .slice none 0 0, .slice none 0 0, .slice none 0 0, .bool false, .string ⟨#[]⟩] 28)
  have hN : Full (w.alloc (.cells #[.int .i64 1, .int .i64 2, .int .i64 (-1), .int .i64 0, .string ⟨#[]⟩, .string ⟨#[]⟩, .string ⟨#[98]⟩, .slice none 0 0, .slice none 0 0, .slice none 0 0, .bool false, .string ⟨#[]⟩] 28)) w.heap.size 28 [.int .i64 1, .int .i64 2, .int .i64 (-1), .int .i64 0, .string ⟨#[]⟩, .string ⟨#[]⟩, .string ⟨#[98]⟩, .slice none 0 0, .slice none 0 0, .slice none 0 0, .bool false, .string ⟨#[]⟩] := Full.new w _ _
  generalize w.alloc (.cells #[.int .i64 1, .int .i64 2, .int .i64 (-1), .int .i64 0, .string ⟨#[]⟩, .string ⟨#[]⟩, .string ⟨#[98]⟩, .slice none 0 0, .slice none 0 0, .slice none 0 0, .bool false, .string ⟨#[]⟩] 28) = W at *
  go_wp2_with fail
  refine (h1 _ hA.env).mono ?_
  rintro e w1 ⟨rfl, hb⟩
  have hA := hA.step hb
  have hN := hN.below hb hN.lt
  clear hb
  go_wp2_with fail
  refine (h2 _ hA.env).mono ?_
  rintro e w2 ⟨rfl, hb⟩
  have hA := hA.step hb
  have hN := hN.below hb hN.lt
  clear hb
  go_wp2_with fail
  refine (h3 _ hA.env).mono ?_
  rintro e w3 ⟨rfl, hb⟩
  have hA := hA.step hb
  have hN := hN.below hb hN.lt
  clear hb
  go_wp2_with fail
  refine (h4 _ hA.env).mono ?_
  rintro e w4 ⟨rfl, hb⟩
  have hA := hA.step hb
  have hN := hN.below hb hN.lt
  clear hb
  go_wp2_with fail
  refine (h5 _ hA.env).mono ?_
  rintro e w5 ⟨rfl, hb⟩
  have hA := hA.step hb
  have hN := hN.below hb hN.lt
  clear hb h1 h2 h3 h4 h5
  have x0 := hN.cell 0
  have x1 := hN.cell 1
  have x2 := hN.cell 2
  have x3 := hN.cell 3
  have x4 := hN.cell 4
  have x5 := hN.cell 5
  have x6 := hN.cell 6
  have x7 := hN.cell 7
  have x8 := hN.cell 8
  have x9 := hN.cell 9
  have x10 := hN.cell 10
  have x11 := hN.cell 11
  simp only [List.getElem?_cons_zero, List.getElem?_cons_succ] at x0 x1 x2 x3 x4 x5 x6 x7 x8 x9 x10 x11
  go_wp2_with fail
  refine (h6 _ hA.env).mono ?_
  rintro e w6 ⟨rfl, hb⟩
  have hA := hA.step hb
  have hN := hN.below hb hN.lt
  clear hb x0 x1 x2 x3 x4 x5 x6 x7 x8 x9 x10 x11
  have x0 := hN.cell 0
  have x1 := hN.cell 1
  have x2 := hN.cell 2
  have x3 := hN.cell 3
  have x4 := hN.cell 4
  have x5 := hN.cell 5
  have x6 := hN.cell 6
  have x7 := hN.cell 7
  have x8 := hN.cell 8
  have x9 := hN.cell 9
  have x10 := hN.cell 10
  have x11 := hN.cell 11
  simp only [List.getElem?_cons_zero, List.getElem?_cons_succ] at x0 x1 x2 x3 x4 x5 x6 x7 x8 x9 x10 x11
  go_wp2_with fail
  refine (h7 _ hA.env).mono ?_
  rintro e w7 ⟨rfl, hb⟩
  have hA := hA.step hb
  go_wp2_with fail
  go_ret
  exact ⟨rfl, hA.below⟩
end Go.Proofs.YtjfgcbikdibjeaaGreatDoor
