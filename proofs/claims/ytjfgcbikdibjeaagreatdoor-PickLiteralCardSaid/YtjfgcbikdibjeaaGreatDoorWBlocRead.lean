/- The walk of package bloc's Read. -/
import Derived.Test.YtjfgcbikdibjeaaGreatDoorWHead
import Derived.Test.YtjfgcbikdibjeaaGreatDoorWBlocD
import Derived.BigRegion
namespace Go.Proofs.YtjfgcbikdibjeaaGreatDoor
open Go.RowKit U Go.Proofs

attribute [local go_sem] ite_min' ite_max'
abbrev bnCells (x : BN) : List Value := nodeCells x.kind x.style x.at' 0 [] [] x.text (.slice none 0 0) (.slice none 0 0) (.slice none 0 0) x.has x.trail
/-- What Read's call leaves. -/
def BlRet (w : World) (x : BN) (q : Int) (k : Nat) (e : Ending) (w' : World) : Prop :=
  e = .returned (.tuple #[.agg (bnCells x).toArray, .int .i64 q, .int .i64 k]) ∧ Below w.heap.size w w'
abbrev zeroNode : List Value := [.int .i64 0, .int .i64 0, .int .i64 0, .int .i64 0, .string ⟨#[]⟩, .string ⟨#[]⟩, .string ⟨#[]⟩, .slice none 0 0, .slice none 0 0, .slice none 0 0, .bool false, .string ⟨#[]⟩]

theorem Full.cells12 {w : World} {g : Nat} {t : TypeId} {y0 y1 y2 y3 y4 y5 y6 y7 y8 y9 y10 y11 : Value} (h : Full w g t [y0, y1, y2, y3, y4, y5, y6, y7, y8, y9, y10, y11]) :
    w.cell? ⟨g, 0, none⟩ = some y0 ∧ w.cell? ⟨g, 1, none⟩ = some y1 ∧ w.cell? ⟨g, 2, none⟩ = some y2 ∧ w.cell? ⟨g, 3, none⟩ = some y3 ∧ w.cell? ⟨g, 4, none⟩ = some y4 ∧ w.cell? ⟨g, 5, none⟩ = some y5 ∧ w.cell? ⟨g, 6, none⟩ = some y6 ∧ w.cell? ⟨g, 7, none⟩ = some y7 ∧ w.cell? ⟨g, 8, none⟩ = some y8 ∧ w.cell? ⟨g, 9, none⟩ = some y9 ∧ w.cell? ⟨g, 10, none⟩ = some y10 ∧ w.cell? ⟨g, 11, none⟩ = some y11 :=
  ⟨h.cell 0, h.cell 1, h.cell 2, h.cell 3, h.cell 4, h.cell 5, h.cell 6, h.cell 7, h.cell 8, h.cell 9, h.cell 10, h.cell 11⟩
theorem Full.free12 {w : World} {g : Nat} {t : TypeId} {cs : List Value} (h : Full w g t cs) :
    w.frozen? ⟨g, 0, none⟩ = false ∧ w.frozen? ⟨g, 1, none⟩ = false ∧ w.frozen? ⟨g, 2, none⟩ = false ∧ w.frozen? ⟨g, 3, none⟩ = false ∧ w.frozen? ⟨g, 4, none⟩ = false ∧ w.frozen? ⟨g, 5, none⟩ = false ∧ w.frozen? ⟨g, 6, none⟩ = false ∧ w.frozen? ⟨g, 7, none⟩ = false ∧ w.frozen? ⟨g, 8, none⟩ = false ∧ w.frozen? ⟨g, 9, none⟩ = false ∧ w.frozen? ⟨g, 10, none⟩ = false ∧ w.frozen? ⟨g, 11, none⟩ = false :=
  ⟨h.free 0, h.free 1, h.free 2, h.free 3, h.free 4, h.free 5, h.free 6, h.free 7, h.free 8, h.free 9, h.free 10, h.free 11⟩
theorem Full.store12 {w : World} {g : Nat} {t : TypeId} {x0 x1 x2 x3 x4 x5 x6 x7 x8 x9 x10 x11 : Value} (h : Full w g t [x0, x1, x2, x3, x4, x5, x6, x7, x8, x9, x10, x11]) (y0 y1 y2 y3 y4 y5 y6 y7 y8 y9 y10 y11 : Value) :
    Full (((((((((((((w).setCell ⟨g, 0, none⟩ (y0)).setCell ⟨g, 1, none⟩ (y1)).setCell ⟨g, 2, none⟩ (y2)).setCell ⟨g, 3, none⟩ (y3)).setCell ⟨g, 4, none⟩ (y4)).setCell ⟨g, 5, none⟩ (y5)).setCell ⟨g, 6, none⟩ (y6)).setCell ⟨g, 7, none⟩ (y7)).setCell ⟨g, 8, none⟩ (y8)).setCell ⟨g, 9, none⟩ (y9)).setCell ⟨g, 10, none⟩ (y10)).setCell ⟨g, 11, none⟩ (y11)) g t [y0, y1, y2, y3, y4, y5, y6, y7, y8, y9, y10, y11] :=
  ((((((((((((h).put 0 y0).put 1 y1).put 2 y2).put 3 y3).put 4 y4).put 5 y5).put 6 y6).put 7 y7).put 8 y8).put 9 y9).put 10 y10).put 11 y11
theorem below12 {w0 w : World} {B g : Nat} (h : Below B w0 w) (hg : B ≤ g) (y0 y1 y2 y3 y4 y5 y6 y7 y8 y9 y10 y11 : Value) : Below B w0 (((((((((((((w).setCell ⟨g, 0, none⟩ (y0)).setCell ⟨g, 1, none⟩ (y1)).setCell ⟨g, 2, none⟩ (y2)).setCell ⟨g, 3, none⟩ (y3)).setCell ⟨g, 4, none⟩ (y4)).setCell ⟨g, 5, none⟩ (y5)).setCell ⟨g, 6, none⟩ (y6)).setCell ⟨g, 7, none⟩ (y7)).setCell ⟨g, 8, none⟩ (y8)).setCell ⟨g, 9, none⟩ (y9)).setCell ⟨g, 10, none⟩ (y10)).setCell ⟨g, 11, none⟩ (y11)) :=
  ((((((((((((h).setCell (p := ⟨g, 0, none⟩) hg y0).setCell (p := ⟨g, 1, none⟩) hg y1).setCell (p := ⟨g, 2, none⟩) hg y2).setCell (p := ⟨g, 3, none⟩) hg y3).setCell (p := ⟨g, 4, none⟩) hg y4).setCell (p := ⟨g, 5, none⟩) hg y5).setCell (p := ⟨g, 6, none⟩) hg y6).setCell (p := ⟨g, 7, none⟩) hg y7).setCell (p := ⟨g, 8, none⟩) hg y8).setCell (p := ⟨g, 9, none⟩) hg y9).setCell (p := ⟨g, 10, none⟩) hg y10).setCell (p := ⟨g, 11, none⟩) hg y11
set_option maxRecDepth 100000 in
set_option maxHeartbeats 8000000 in
theorem blread_no (l : List UInt8) (a n : Int) (w : World) (_hs : l.length ≤ 1000000) (h : startB l a = false) :
    Calls Tryz.prog 73 #[.string ⟨l.toArray⟩, .int .i64 a, .int .i64 n] w (BlRet w .zero a 5) := by
  have hst : ¬ (0 ≤ a ∧ a < l.length ∧ (byt l a.toNat = 124 ∨ byt l a.toNat = 62)) := of_decide_eq_false h
  have hF := Full.new w 28 zeroNode
  have hB : Below w.heap.size w (w.alloc (.cells zeroNode.toArray 28)) := (Below.refl _ _).alloc (Nat.le_refl _) _
  clear h
  go_enter Tryz.func73, Tryz.ntmps73
  go_upto_region 1 with fail
  generalize w.alloc (.cells #[.int .i64 0, .int .i64 0, .int .i64 0, .int .i64 0, .string ⟨#[]⟩, .string ⟨#[]⟩, .string ⟨#[]⟩, .slice none 0 0, .slice none 0 0, .slice none 0 0, .bool false, .string ⟨#[]⟩] 28) = w0 at *
  go_cut [35] (fun s wx => s = .bool true ∧ w0 = wx)
  case first =>
    by_cases h0 : a < 0
    · clear hst
      go_wp2_with fail
      go_meet
      exact ⟨rfl, rfl⟩
    · by_cases h1 : a < l.length
      · obtain ⟨p, rfl⟩ : ∃ p : Nat, a = p := ⟨a.toNat, by omega⟩
        rw [Int.toNat_natCast] at hst
        have g1 : ((byt l p : Int) != 124) = true := by simp; omega
        have g2 : ((byt l p : Int) != 62) = true := by simp; omega
        have hp : p < l.length := by omega
        clear hst
        go_wp2_with fail
        go_meet
        exact ⟨rfl, rfl⟩
      · clear hst
        have g1 : decide (a < (l.length : Int)) = false := decide_eq_false h1
        have g2 : decide ((l.length : Int) ≤ a) = true := decide_eq_true (by omega)
        go_wp2_with fail
        go_meet
        exact ⟨rfl, rfl⟩
  case rest =>
    obtain ⟨rfl, rfl⟩ := hcut
    obtain ⟨d0, d1, d2, d3, d4, d5, d6, d7, d8, d9, d10, d11⟩ := hF.cells12
    obtain ⟨f0, f1, f2, f3, f4, f5, f6, f7, f8, f9, f10, f11⟩ := hF.free12
    have hN := hF.store12 (.int .i64 0) (.int .i64 0) (.int .i64 0) (.int .i64 0) (.string ⟨#[]⟩) (.string ⟨#[]⟩) (.string ⟨#[]⟩) (.slice none 0 0) (.slice none 0 0) (.slice none 0 0) (.bool false) (.string ⟨#[]⟩)
    have hBN := below12 hB (Nat.le_refl _) (.int .i64 0) (.int .i64 0) (.int .i64 0) (.int .i64 0) (.string ⟨#[]⟩) (.string ⟨#[]⟩) (.string ⟨#[]⟩) (.slice none 0 0) (.slice none 0 0) (.slice none 0 0) (.bool false) (.string ⟨#[]⟩)
    have HN := Lib.hid hN
    have HBN := Lib.hid hBN
    clear hN hBN hF hB
    go_wp2_with fail
    generalize ((((((((((((w0).setCell ⟨w.heap.size, 0, none⟩ (.int .i64 0)).setCell ⟨w.heap.size, 1, none⟩ (.int .i64 0)).setCell ⟨w.heap.size, 2, none⟩ (.int .i64 0)).setCell ⟨w.heap.size, 3, none⟩ (.int .i64 0)).setCell ⟨w.heap.size, 4, none⟩ (.string ⟨#[]⟩)).setCell ⟨w.heap.size, 5, none⟩ (.string ⟨#[]⟩)).setCell ⟨w.heap.size, 6, none⟩ (.string ⟨#[]⟩)).setCell ⟨w.heap.size, 7, none⟩ (.slice none 0 0)).setCell ⟨w.heap.size, 8, none⟩ (.slice none 0 0)).setCell ⟨w.heap.size, 9, none⟩ (.slice none 0 0)).setCell ⟨w.heap.size, 10, none⟩ (.bool false)).setCell ⟨w.heap.size, 11, none⟩ (.string ⟨#[]⟩) = wf at *
    obtain ⟨r0, r1, r2, r3, r4, r5, r6, r7, r8, r9, r10, r11⟩ := HN.out.cells12
    refine bodyPost_ret (v := .tuple #[.agg zeroNode.toArray, .int .i64 a, .int .i64 5]) ?_ rfl ?_
    · simp [results, Tryz.results73, go_sem, r0, r1, r2, r3, r4, r5, r6, r7, r8, r9, r10, r11]
    · exact ⟨rfl, HBN.out⟩
/-- Read's own blocks: the result; the node. -/
structure RW (w wr : World) (cs : List Value) : Prop where
  below : Below w.heap.size w wr
  res : Full wr w.heap.size 28 zeroNode
  node : Full wr (w.heap.size + 1) 28 cs
  size : w.heap.size + 1 < wr.heap.size
theorem RW.below' {w wr w2 : World} {cs : List Value} (h : RW w wr cs) (hb : Below wr.heap.size wr w2) : RW w w2 cs :=
  ⟨h.below.trans (hb.mono h.below.size), h.res.below hb h.res.lt, h.node.below hb h.node.lt, Nat.lt_of_lt_of_le h.size hb.size⟩
theorem RW.alloc {w wr : World} {cs : List Value} (h : RW w wr cs) (o : Obj) : RW w (wr.alloc o) cs := h.below' ((Below.refl _ _).alloc (Nat.le_refl _) o)
/-- A block of the call's own turns. -/
theorem RW.grown {w wr w2 : World} {cs : List Value} (h : RW w wr cs) {g : Nat} (hb : wr.grownBy w2 (some g)) (hg : w.heap.size + 1 < g) : RW w w2 cs :=
  ⟨h.below.grown hb h.below.size (fun k hk => by injection hk with hk; omega), h.res.grown hb (by simp; omega), h.node.grown hb (by simp; omega), Nat.lt_of_lt_of_le h.size hb.size⟩
/-- Its node turns. -/
theorem RW.turned {w wr w2 : World} {cs cs2 : List Value} (h : RW w wr cs) (hb : wr.grownBy w2 (some (w.heap.size + 1))) (hn : Full w2 (w.heap.size + 1) 28 cs2) : RW w w2 cs2 :=
  ⟨h.below.grown hb h.below.size (fun k hk => by injection hk with hk; omega), h.res.grown hb (by simp), hn, Nat.lt_of_lt_of_le h.size hb.size⟩
theorem RW.res' {w wr w2 : World} {cs : List Value} (h : RW w wr cs) (hb : wr.grownBy w2 (some (w.heap.size + 1))) : Below w.heap.size w w2 ∧ Full w2 w.heap.size 28 zeroNode :=
  ⟨h.below.grown hb h.below.size (fun k hk => by injection hk with hk; omega), h.res.grown hb (by simp)⟩
theorem blocOf_bad {l : List UInt8} {p : Nat} {n : Int} (h : hdBad l (p + 1) = true) : blocOf l p n = (.zero, (hdEnd l (p + 1) : Int), 5) := by
  unfold blocOf
  simp only []
  rw [if_pos h]
theorem blocOf_too {l : List UInt8} {p q : Nat} {n : Int} (h : hdBad l (p + 1) = false) (ht : bodyToo l (min (rowTo l (p + 1) + 1) l.length) (hdM l (p + 1)).1 n = some q) : blocOf l p n = (.zero, (q : Int), 5) := by
  unfold blocOf
  simp only []
  rw [if_neg (by rw [h]; decide), ht]
theorem blocOf_ok {l : List UInt8} {p : Nat} {n : Int} {r : Went} (h : hdBad l (p + 1) = false) (ht : bodyToo l (min (rowTo l (p + 1) + 1) l.length) (hdM l (p + 1)).1 n = none)
    (hr : bodyM l (min (rowTo l (p + 1) + 1) l.length) (hdM l (p + 1)).1 n = r) :
    blocOf l p n = (⟨1, if folds l p then 5 else 4, p, hdHas l (p + 1), hdTrail l (p + 1), toldM (r.1.take r.2.1) r.2.2.1 (folds l p) (hdM l (p + 1)).2.1⟩, (r.2.2.2 : Int), 0) := by
  unfold blocOf
  simp only []
  rw [if_neg (by rw [h]; decide), ht]
  simp only []
  rw [hr]
abbrev node0 (p : Nat) (fo : Bool) (has : Bool) (tr : List UInt8) : List Value := nodeCells 1 (if fo then 5 else 4) p 0 [] [] [] (.slice none 0 0) (.slice none 0 0) (.slice none 0 0) has tr
set_option maxRecDepth 100000 in
set_option maxHeartbeats 8000000 in
theorem blread_yes (l : List UInt8) (p : Nat) (n : Int) (w : World) (hs : l.length ≤ 900000) (hp : p < l.length) (hb : byt l p = 124 ∨ byt l p = 62) (hn1 : -9223372036854775808 ≤ n) (hn2 : n ≤ 9223372036854775807) :
    Calls Tryz.prog 73 #[.string ⟨l.toArray⟩, .int .i64 p, .int .i64 n] w (BlRet w (blocOf l p n).1 (blocOf l p n).2.1 (blocOf l p n).2.2) := by
  obtain ⟨R, hRR⟩ : ∃ R, blocOf l p n = R := ⟨_, rfl⟩
  rw [hRR]
  obtain ⟨x1, x2, x3⟩ := R
  simp only []
  have hF := Full.new w 28 zeroNode
  have hB : Below w.heap.size w (w.alloc (.cells zeroNode.toArray 28)) := (Below.refl _ _).alloc (Nat.le_refl _) _
  have hS : (w.alloc (.cells zeroNode.toArray 28)).heap.size = w.heap.size + 1 := by simp
  have hfo : folds l p = decide (byt l p = 62) := rfl
  obtain ⟨fo, hfo2⟩ : ∃ fo, folds l p = fo := ⟨_, rfl⟩
  rw [hfo2] at hfo
  go_enter Tryz.func73, Tryz.ntmps73
  go_upto_region 1 with fail
  generalize w.alloc (.cells #[.int .i64 0, .int .i64 0, .int .i64 0, .int .i64 0, .string ⟨#[]⟩, .string ⟨#[]⟩, .string ⟨#[]⟩, .slice none 0 0, .slice none 0 0, .slice none 0 0, .bool false, .string ⟨#[]⟩] 28) = w0 at *
  go_cut [35] (fun s wx => s = .bool false ∧ w0 = wx)
  case first =>
    rcases hb with hb | hb
    · have g1 : ((byt l p : Int) != 124) = false := by rw [hb]; rfl
      clear hb
      go_wp2_with fail
      go_meet
      exact ⟨by rw [decide_eq_false (by omega), decide_eq_false (by omega)]; rfl, rfl⟩
    · have g1 : ((byt l p : Int) != 124) = true := by rw [hb]; rfl
      have g2 : ((byt l p : Int) != 62) = false := by rw [hb]; rfl
      clear hb
      go_wp2_with fail
      go_meet
      exact ⟨by rw [decide_eq_false (by omega), decide_eq_false (by omega)]; rfl, rfl⟩
  case rest =>
    obtain ⟨rfl, rfl⟩ := hcut
    go_upto_region 4 with fail
    have hR0 : RW w (w0.alloc (.cells (node0 p false false []).toArray 28)) (node0 p false false []) := by
      have h1 := Full.new w0 28 (node0 p false false [])
      rw [hS] at h1
      exact ⟨hB.alloc (by omega) _, hF.alloc _, h1, by simp; omega⟩
    change RW w (w0.alloc (.cells #[.int .i64 1, .int .i64 4, .int .i64 p, .int .i64 0, .string ⟨#[]⟩, .string ⟨#[]⟩, .string ⟨#[]⟩, .slice none 0 0, .slice none 0 0, .slice none 0 0, .bool false, .string ⟨#[]⟩] 28)) _ at hR0
    generalize w0.alloc (.cells #[.int .i64 1, .int .i64 4, .int .i64 p, .int .i64 0, .string ⟨#[]⟩, .string ⟨#[]⟩, .string ⟨#[]⟩, .slice none 0 0, .slice none 0 0, .slice none 0 0, .bool false, .string ⟨#[]⟩] 28) = w1 at *
    clear hF hB hS
    go_cut [43] (fun s wx => s = .bool fo ∧ w1 = wx)
    case first =>
      cases fo with
      | true =>
        have h62 := of_decide_eq_true hfo.symm
        have g1 : ((byt l p : Int) == 62) = true := by rw [h62]; rfl
        have HH := Lib.hid h62
        clear h62
        go_wp2_with fail
        go_meet
        exact ⟨by rw [decide_eq_true HH.out], rfl⟩
      | false =>
        have h62 := of_decide_eq_false hfo.symm
        have g1 : ((byt l p : Int) == 62) = false := by rw [beq_eq_false_iff_ne]; omega
        have HH := Lib.hid h62
        clear h62
        go_wp2_with fail
        go_meet
        exact ⟨by rw [decide_eq_false HH.out], rfl⟩
    case rest =>
      obtain ⟨rfl, rfl⟩ := hcut
      clear hfo hb
      go_upto_if 43 with fail
      go_cut [] (fun wx => RW w wx (node0 p fo false []))
      case first =>
        cases fo with
        | true =>
          have y1 := hR0.node.cell 1
          have x1 := hR0.node.free 1
          simp only [List.getElem?_cons_zero, List.getElem?_cons_succ] at y1
          have hR1 : RW w (w1.setCell ⟨w.heap.size + 1, 1, none⟩ (.int .i64 5)) (node0 p true false []) :=
            ⟨hR0.below.setCell (p := ⟨w.heap.size + 1, 1, none⟩) (Nat.le_succ _) _, hR0.res.put_far (p := ⟨w.heap.size + 1, 1, none⟩) (by simp) _, hR0.node.put 1 _, by simpa [World.setCell] using hR0.size⟩
          have HR1 := Lib.hid hR1
          clear hR1 hR0
          go_wp2_with fail
          go_meet
          exact HR1.out
        | false =>
          have HR1 := Lib.hid hR0
          clear hR0
          go_wp2_with fail
          go_meet
          exact HR1.out
      case rest =>
        have hR := hcut
        clear hcut hR0
        have hHd := header_c l (p + 1) (w.heap.size + 1) 1 (if fo then 5 else 4) p 0 [] (.slice none 0 0) (.slice none 0 0) (.slice none 0 0) wc hR.node (by omega) (by omega)
        rw [show ((p + 1 : Nat) : Int) = (p : Int) + 1 by omega] at hHd
        have hMi := hdM_is (l := l) (p := p + 1) (by omega)
        have HR := Lib.hid hR
        clear hR
        go_wp2_with fail
        refine hHd.mono ?_
        rintro e1 w2 ⟨rfl, hg2, hn2⟩
        clear hHd
        cases hbad : hdBad l (p + 1) with
        | true =>
          obtain ⟨hB2, hF2⟩ := HR.out.res' hg2
          have hB3 := hB2.alloc (show w.heap.size ≤ w2.heap.size from hB2.size) (.cells #[.int .i64 (hdM l (p + 1)).1, .int .u8 (hdM l (p + 1)).2.1] 128)
          have hF3 := hF2.alloc (.cells #[.int .i64 (hdM l (p + 1)).1, .int .u8 (hdM l (p + 1)).2.1] 128)
          have hres := blocOf_bad (n := n) hbad
          rw [hRR] at hres
          obtain ⟨rfl, rfl, rfl⟩ : x1 = BN.zero ∧ x2 = (hdEnd l (p + 1) : Int) ∧ x3 = 5 := by
            injection hres with h1 h2
            injection h2 with h2 h3
            exact ⟨h1, h2, h3⟩
          clear hn2 hg2 hB2 hF2 hRR hres hMi
          simp only [Bool.not_true, if_pos]
          generalize (hdM l (p + 1)).1 = hn at *
          generalize (hdM l (p + 1)).2.1 = hk at *
          generalize hdEnd l (p + 1) = he at *
          go_upto_region 7 with fail
          generalize w2.alloc (.cells #[.int .i64 hn, .int .u8 hk] 128) = w3 at *
          obtain ⟨d0, d1, d2, d3, d4, d5, d6, d7, d8, d9, d10, d11⟩ := hF3.cells12
          obtain ⟨f0, f1, f2, f3, f4, f5, f6, f7, f8, f9, f10, f11⟩ := hF3.free12
          have hN := hF3.store12 (.int .i64 0) (.int .i64 0) (.int .i64 0) (.int .i64 0) (.string ⟨#[]⟩) (.string ⟨#[]⟩) (.string ⟨#[]⟩) (.slice none 0 0) (.slice none 0 0) (.slice none 0 0) (.bool false) (.string ⟨#[]⟩)
          have hBN := below12 hB3 (Nat.le_refl _) (.int .i64 0) (.int .i64 0) (.int .i64 0) (.int .i64 0) (.string ⟨#[]⟩) (.string ⟨#[]⟩) (.string ⟨#[]⟩) (.slice none 0 0) (.slice none 0 0) (.slice none 0 0) (.bool false) (.string ⟨#[]⟩)
          have HN := Lib.hid hN
          have HBN := Lib.hid hBN
          clear hN hBN hF3 hB3
          go_wp2_with fail
          generalize ((((((((((((w3).setCell ⟨w.heap.size, 0, none⟩ (.int .i64 0)).setCell ⟨w.heap.size, 1, none⟩ (.int .i64 0)).setCell ⟨w.heap.size, 2, none⟩ (.int .i64 0)).setCell ⟨w.heap.size, 3, none⟩ (.int .i64 0)).setCell ⟨w.heap.size, 4, none⟩ (.string ⟨#[]⟩)).setCell ⟨w.heap.size, 5, none⟩ (.string ⟨#[]⟩)).setCell ⟨w.heap.size, 6, none⟩ (.string ⟨#[]⟩)).setCell ⟨w.heap.size, 7, none⟩ (.slice none 0 0)).setCell ⟨w.heap.size, 8, none⟩ (.slice none 0 0)).setCell ⟨w.heap.size, 9, none⟩ (.slice none 0 0)).setCell ⟨w.heap.size, 10, none⟩ (.bool false)).setCell ⟨w.heap.size, 11, none⟩ (.string ⟨#[]⟩) = wf at *
          obtain ⟨r0, r1, r2, r3, r4, r5, r6, r7, r8, r9, r10, r11⟩ := HN.out.cells12
          refine bodyPost_ret (v := .tuple #[.agg zeroNode.toArray, .int .i64 he, .int .i64 5]) ?_ rfl ?_
          · simp [results, Tryz.results73, go_sem, r0, r1, r2, r3, r4, r5, r6, r7, r8, r9, r10, r11]
          · exact ⟨rfl, HBN.out⟩
        | false =>
          have hR2 := HR.out.turned hg2 (hn2 hbad)
          have hF3 := Full.new w2 128 (headCells (hdM l (p + 1)).1 (hdM l (p + 1)).2.1)
          have hR3 := hR2.alloc (.cells (headCells (hdM l (p + 1)).1 (hdM l (p + 1)).2.1).toArray 128)
          have hsz3 : w.heap.size + 1 < w2.heap.size := hR2.size
          have hok := fun r => blocOf_ok (n := n) (r := r) hbad
          have htoo := fun q => blocOf_too (n := n) (q := q) hbad
          rw [hRR] at hok htoo
          rw [hfo2] at hok
          have ht1 := rowTo_le (l := l) (p := p + 1) (by omega)
          clear hn2 hg2 hR2 hRR hfo2 hbad HR
          obtain ⟨-, -, hd9, hdk, -⟩ := hMi
          simp only [Bool.not_false]
          change RW w (w2.alloc (.cells #[.int .i64 (hdM l (p + 1)).1, .int .u8 (hdM l (p + 1)).2.1] 128)) _ at hR3
          change Full (w2.alloc (.cells #[.int .i64 (hdM l (p + 1)).1, .int .u8 (hdM l (p + 1)).2.1] 128)) _ _ _ at hF3
          have hstb := st_begin (l := l) (p := p + 1)
          generalize (hdM l (p + 1)).1 = hn at *
          generalize (hdM l (p + 1)).2.1 = hk at *
          generalize hdHas l (p + 1) = has at *
          generalize hdTrail l (p + 1) = tr at *
          generalize rowTo l (p + 1) = t at *
          have HOK := Lib.hid hok
          have HTOO := Lib.hid htoo
          have HSB := Lib.hid hstb
          clear hok htoo hstb
          go_upto_region 7 with fail
          generalize w2.alloc (.cells #[.int .i64 hn, .int .u8 hk] 128) = w3 at *
          have c0 := hF3.cell 0
          have c1 := hF3.cell 1
          simp only [List.getElem?_cons_zero, List.getElem?_cons_succ] at c0 c1
          go_upto_region 10 with fail
          obtain ⟨b, hbb⟩ : ∃ b, min (t + 1) l.length = b := ⟨_, rfl⟩
          have hcb : min ((t : Int) + 1) (l.length : Int) = (b : Int) := by omega
          have hbl : b ≤ l.length := by omega
          rw [hbb] at HOK HTOO HSB
          obtain ⟨wd, hwd⟩ : ∃ wd, hn + (min (max n 0) (l.length + 1)).toNat = wd := ⟨_, rfl⟩
          have hcw : (hn : Int) + min (max n 0) ((l.length : Int) + 1) = (wd : Int) := by omega
          have hwl : wd ≤ 9 + l.length + 1 := by omega
          rw [hcb, hcw]
          clear hbb hcb hcw
          have hg2 := hF3.lt
          have hB4 : BF (w3.alloc (.cells (bodyCells l b l.length wd).toArray 134)) (w3.alloc (.cells (bodyCells l b l.length wd).toArray 134)) w3.heap.size l b l.length wd := ⟨only_refl _ _, Full.new w3 _ _⟩
          have hR4 := hR3.alloc (.cells (bodyCells l b l.length wd).toArray 134)
          have hF4 := hF3.alloc (.cells (bodyCells l b l.length wd).toArray 134)
          change BF (w3.alloc (.cells #[.string ⟨l.toArray⟩, .int .i64 b, .int .i64 l.length, .int .i64 wd] 134)) (w3.alloc (.cells #[.string ⟨l.toArray⟩, .int .i64 b, .int .i64 l.length, .int .i64 wd] 134)) _ _ _ _ _ at hB4
          change RW w (w3.alloc (.cells #[.string ⟨l.toArray⟩, .int .i64 b, .int .i64 l.length, .int .i64 wd] 134)) _ at hR4
          change Full (w3.alloc (.cells #[.string ⟨l.toArray⟩, .int .i64 b, .int .i64 l.length, .int .i64 wd] 134)) _ _ _ at hF4
          generalize w3.alloc (.cells #[.string ⟨l.toArray⟩, .int .i64 b, .int .i64 l.length, .int .i64 wd] 134) = w4 at *
          generalize w3.heap.size = g at *
          generalize w2.heap.size = gh at *
          clear c0 c1 hF3 hR3
          have c0 := hF4.cell 0
          simp only [List.getElem?_cons_zero] at c0
          have hW := blwidth_c g l b wd n w4 hB4 (by omega) hbl HSB.out hn1 hn2
          obtain ⟨too, htoo⟩ : ∃ too, bodyToo l b hn n = too := ⟨_, rfl⟩
          obtain ⟨W, hWW⟩ : ∃ W, bodyW l b hn n = W := ⟨_, rfl⟩
          obtain ⟨To, hTo⟩ : ∃ To, (if hn = 0 then widthTo l b n else l.length) = To := ⟨_, rfl⟩
          have HB4 := Lib.hid hB4
          have HF4 := Lib.hid hF4
          have HR4 := Lib.hid hR4
          clear hB4 hF4 hR4
          go_cut [84] (fun s wx => s = .bool too.isSome ∧ BF w4 wx g l b (too.getD To) W)
          case first =>
            by_cases h0 : hn = 0
            · have g0 : ((hn : Int) == 0) = true := by rw [h0]; rfl
              have e1 : too = tooM l (widthM l b n) (frontM l b) b := by rw [← htoo]; unfold bodyToo; rw [if_pos h0]
              have e2 : W = widthM l b n := by rw [← hWW]; unfold bodyW; rw [if_pos h0]
              have e3 : To = widthTo l b n := by rw [← hTo, if_pos h0]
              rw [← e1, ← e2, ← e3] at hW
              have HH := Lib.hid (And.intro e1 e2)
              clear e1 e2 e3 htoo hWW hTo h0 HOK HTOO
              go_wp2_with fail
              refine hW.mono ?_
              rintro e1 w5 ⟨rfl, hB5⟩
              go_wp2_with fail
              go_meet
              exact ⟨by cases too <;> rfl, hB5⟩
            · have g0 : ((hn : Int) == 0) = false := by rw [beq_eq_false_iff_ne]; omega
              have e1 : too = none := by rw [← htoo]; unfold bodyToo; rw [if_neg h0]
              have e2 : W = wd := by rw [← hWW, ← hwd]; unfold bodyW; rw [if_neg h0]
              have e3 : To = l.length := by rw [← hTo, if_neg h0]
              subst e1 e2 e3
              clear htoo hWW hTo h0 HOK HTOO hW
              go_wp2_with fail
              go_meet
              exact ⟨rfl, HB4.out⟩
          case rest =>
            obtain ⟨rfl, hB5⟩ := hcut
            have hR5 := HR4.out.grown hB5.1 (by omega)
            have hF5 := HF4.out.grown hB5.1 (by simp; omega)
            have h5 := hB5.2
            clear hW HB4 HF4 HR4 hB5 c0
            cases too with
            | some q =>
              have hres := HTOO.out q htoo
              obtain ⟨rfl, rfl, rfl⟩ : x1 = BN.zero ∧ x2 = (q : Int) ∧ x3 = 5 := by
                injection hres with h1 h2
                injection h2 with h2 h3
                exact ⟨h1, h2, h3⟩
              clear hres HTOO HOK htoo hWW hTo
              have hRb := hR5.below
              have hRf := hR5.res
              have b2 := h5.cell 2
              simp only [List.getElem?_cons_zero, List.getElem?_cons_succ, Option.getD_some] at b2
              clear hR5 hF5 h5
              go_upto_region 11 with fail
              obtain ⟨w5, hw5⟩ : ∃ w5, w5 = wc := ⟨_, rfl⟩
              rw [← hw5] at hRb hRf b2 ⊢
              clear hw5
              have hne1 : ¬ g = w.heap.size := by omega
              have hne2 : ¬ w.heap.size = g := by omega
              obtain ⟨d0, d1, d2, d3, d4, d5, d6, d7, d8, d9, d10, d11⟩ := hRf.cells12
              obtain ⟨f0, f1, f2, f3, f4, f5, f6, f7, f8, f9, f10, f11⟩ := hRf.free12
              have hN := hRf.store12 (.int .i64 0) (.int .i64 0) (.int .i64 0) (.int .i64 0) (.string ⟨#[]⟩) (.string ⟨#[]⟩) (.string ⟨#[]⟩) (.slice none 0 0) (.slice none 0 0) (.slice none 0 0) (.bool false) (.string ⟨#[]⟩)
              have hBN := below12 hRb (Nat.le_refl _) (.int .i64 0) (.int .i64 0) (.int .i64 0) (.int .i64 0) (.string ⟨#[]⟩) (.string ⟨#[]⟩) (.string ⟨#[]⟩) (.slice none 0 0) (.slice none 0 0) (.slice none 0 0) (.bool false) (.string ⟨#[]⟩)
              have HN := Lib.hid hN
              have HBN := Lib.hid hBN
              clear hN hBN hRf hRb
              go_region
              go_wp2_with fail
              generalize ((((((((((((w5).setCell ⟨w.heap.size, 0, none⟩ (.int .i64 0)).setCell ⟨w.heap.size, 1, none⟩ (.int .i64 0)).setCell ⟨w.heap.size, 2, none⟩ (.int .i64 0)).setCell ⟨w.heap.size, 3, none⟩ (.int .i64 0)).setCell ⟨w.heap.size, 4, none⟩ (.string ⟨#[]⟩)).setCell ⟨w.heap.size, 5, none⟩ (.string ⟨#[]⟩)).setCell ⟨w.heap.size, 6, none⟩ (.string ⟨#[]⟩)).setCell ⟨w.heap.size, 7, none⟩ (.slice none 0 0)).setCell ⟨w.heap.size, 8, none⟩ (.slice none 0 0)).setCell ⟨w.heap.size, 9, none⟩ (.slice none 0 0)).setCell ⟨w.heap.size, 10, none⟩ (.bool false)).setCell ⟨w.heap.size, 11, none⟩ (.string ⟨#[]⟩) = wf at *
              obtain ⟨r0, r1, r2, r3, r4, r5, r6, r7, r8, r9, r10, r11⟩ := HN.out.cells12
              refine bodyPost_ret (v := .tuple #[.agg zeroNode.toArray, .int .i64 q, .int .i64 5]) ?_ rfl ?_
              · simp [results, Tryz.results73, go_sem, r0, r1, r2, r3, r4, r5, r6, r7, r8, r9, r10, r11]
              · exact ⟨rfl, below_drewN HBN.out 1⟩
            | none =>
              simp only [Option.getD_none] at h5
              have hto : endM l W b ≤ To ∧ To ≤ l.length := by
                by_cases h0 : hn = 0
                · have e2 : W = widthM l b n := by rw [← hWW]; unfold bodyW; rw [if_pos h0]
                  have e3 : To = widthTo l b n := by rw [← hTo, if_pos h0]
                  rw [e2, e3]
                  exact widthTo_ok hbl HSB.out
                · rw [← hTo, if_neg h0]
                  exact ⟨(end_is l W _ b (Nat.le_refl _) hbl).2, Nat.le_refl _⟩
              have hWb : W ≤ 2147483647 := by
                by_cases h0 : hn = 0
                · have e2 : W = widthM l b n := by rw [← hWW]; unfold bodyW; rw [if_pos h0]
                  have := width_le (n := n) hbl HSB.out
                  omega
                · have e2 : W = wd := by rw [← hWW, ← hwd]; unfold bodyW; rw [if_neg h0]
                  omega
              obtain ⟨r, hr⟩ : ∃ r, bodyM l b hn n = r := ⟨_, rfl⟩
              have hres := HOK.out r htoo hr
              have hgo : goM l W b [] 0 0 = r := by rw [← hr, ← hWW]; rfl
              have hE : endM l W b = r.2.2.2 := by unfold endM; rw [hgo]
              have hsz := go_size l W _ b [] 0 0 (Nat.le_refl _) hbl HSB.out (Nat.le_refl _) (Nat.zero_le _) (Nat.zero_le _) (fun _ => Nat.zero_le _)
              have hEnd := blend_c g l b To W wc ⟨only_refl _ _, h5⟩ (by omega) hbl hto.2 hto.1 hWb
              have hLi := fun w h => bllines_c g l b (endM l W b) W w h (by omega) hbl HSB.out rfl hWb
              rw [hgo] at hsz hLi
              rw [hE] at hEnd hLi
              obtain ⟨xs, full, feeds, E⟩ := r
              simp only [] at hsz hEnd hLi hres
              have hxt : sumL (xs.take full) ≤ 1000000 := Nat.le_trans (sumL_take xs full) (by omega)
              have hfe : feeds ≤ 1000000 := by omega
              obtain ⟨ys, hys⟩ : ∃ ys, xs.take full = ys := ⟨_, rfl⟩
              rw [hys] at hxt hLi hres
              have hTold := fun v w h => bltold_c v ys feeds hk fo w h hxt hfe
              obtain ⟨tx, htx⟩ : ∃ tx, toldM ys feeds fo hk = tx := ⟨_, rfl⟩
              rw [htx] at hres hTold
              obtain ⟨st, hst⟩ : ∃ st : Nat, (if fo then 5 else 4) = st := ⟨_, rfl⟩
              rw [hst] at hres
              have hst2 : (if fo then 5 else 4 : Int) = (st : Int) := by rw [← hst]; cases fo <;> rfl
              have gst : ((st : Int) == 5) = fo := by rw [← hst]; cases fo <;> rfl
              have HX : Hid (x1 = ⟨1, st, p, has, tr, tx⟩ ∧ x2 = (E : Int) ∧ x3 = 0) := Lib.hid (by
                injection hres with h1 h2
                injection h2 with h2 h3
                exact ⟨h1, h2, h3⟩)
              change RW w wc (nodeCells 1 (if fo then 5 else 4 : Int) p 0 [] [] [] (.slice none 0 0) (.slice none 0 0) (.slice none 0 0) has tr) at hR5
              rw [hst2] at hR5
              clear hst hst2
              have HRo := Lib.hid hR5
              have HFo := Lib.hid hF5
              clear hres HTOO HOK htoo hWW hTo hto hE hgo hr hsz hys htx hxt h5 hR5 hF5
              go_wp2_with fail
              refine hEnd.mono ?_
              rintro e1 w6 ⟨rfl, hB6⟩
              have hR6 := HRo.out.grown hB6.1 (by omega)
              have hF6 := HFo.out.grown hB6.1 (by simp; omega)
              have h6 := hB6.2
              clear hEnd HRo HFo hB6
              go_wp2_with fail
              refine (hLi _ h6).mono ?_
              rintro e1 w7 ⟨v, rfl, hv, hb7⟩
              have hR7 := hR6.below' hb7
              have hF7 := hF6.below hb7 hF6.lt
              have h7 := h6.below hb7 h6.lt
              clear hLi hR6 hF6 h6 hb7
              have y1 := hR7.node.cell 1
              have z1 := hF7.cell 1
              simp only [List.getElem?_cons_zero, List.getElem?_cons_succ] at y1 z1
              have HR7 := Lib.hid hR7
              have HF7 := Lib.hid h7
              clear hR7 hF7 h7
              go_wp2_with fail
              refine (hTold v w7 hv).mono ?_
              rintro e1 w8 ⟨rfl, hb8⟩
              have hR8 := HR7.out.below' hb8
              have h8 := HF7.out.below hb8 HF7.out.lt
              have y6 := hR8.node.cell 6
              have x6 := hR8.node.free 6
              simp only [List.getElem?_cons_zero, List.getElem?_cons_succ] at y6
              have hR9 : RW w (w8.setCell ⟨w.heap.size + 1, 6, none⟩ (.string ⟨tx.toArray⟩)) (nodeCells 1 st p 0 [] [] tx (.slice none 0 0) (.slice none 0 0) (.slice none 0 0) has tr) :=
                ⟨hR8.below.setCell (p := ⟨w.heap.size + 1, 6, none⟩) (Nat.le_succ _) _, hR8.res.put_far (p := ⟨w.heap.size + 1, 6, none⟩) (by simp) _, hR8.node.put 6 _, by simpa [World.setCell] using hR8.size⟩
              have h9 := h8.put_far (p := ⟨w.heap.size + 1, 6, none⟩) (by show w.heap.size + 1 ≠ g; omega) (.string ⟨tx.toArray⟩)
              clear hR8 h8 hTold hv hb8 HR7 HF7 y1 z1
              go_upto_region 15 with fail
              generalize w8.setCell ⟨w.heap.size + 1, 6, none⟩ (.string ⟨tx.toArray⟩) = w9 at *
              clear y6 x6
              have hRb := hR9.below
              have hRf := hR9.res
              have b2 := h9.cell 2
              simp only [List.getElem?_cons_zero, List.getElem?_cons_succ] at b2
              obtain ⟨c0, c1, c2, c3, c4, c5, c6, c7, c8, c9, c10, c11⟩ := hR9.node.cells12
              have hne1 : ¬ g = w.heap.size := by omega
              have hne2 : ¬ w.heap.size = g := by omega
              clear hR9 h9
              obtain ⟨d0, d1, d2, d3, d4, d5, d6, d7, d8, d9, d10, d11⟩ := hRf.cells12
              obtain ⟨f0, f1, f2, f3, f4, f5, f6, f7, f8, f9, f10, f11⟩ := hRf.free12
              have hN := hRf.store12 (.int .i64 1) (.int .i64 st) (.int .i64 p) (.int .i64 0) (.string ⟨#[]⟩) (.string ⟨#[]⟩) (.string ⟨tx.toArray⟩) (.slice none 0 0) (.slice none 0 0) (.slice none 0 0) (.bool has) (.string ⟨tr.toArray⟩)
              have hBN := below12 hRb (Nat.le_refl _) (.int .i64 1) (.int .i64 st) (.int .i64 p) (.int .i64 0) (.string ⟨#[]⟩) (.string ⟨#[]⟩) (.string ⟨tx.toArray⟩) (.slice none 0 0) (.slice none 0 0) (.slice none 0 0) (.bool has) (.string ⟨tr.toArray⟩)
              have HN := Lib.hid hN
              have HBN := Lib.hid hBN
              clear hN hBN hRf hRb
              go_region
              go_wp2_with fail
              generalize ((((((((((((w9).setCell ⟨w.heap.size, 0, none⟩ (.int .i64 1)).setCell ⟨w.heap.size, 1, none⟩ (.int .i64 st)).setCell ⟨w.heap.size, 2, none⟩ (.int .i64 p)).setCell ⟨w.heap.size, 3, none⟩ (.int .i64 0)).setCell ⟨w.heap.size, 4, none⟩ (.string ⟨#[]⟩)).setCell ⟨w.heap.size, 5, none⟩ (.string ⟨#[]⟩)).setCell ⟨w.heap.size, 6, none⟩ (.string ⟨tx.toArray⟩)).setCell ⟨w.heap.size, 7, none⟩ (.slice none 0 0)).setCell ⟨w.heap.size, 8, none⟩ (.slice none 0 0)).setCell ⟨w.heap.size, 9, none⟩ (.slice none 0 0)).setCell ⟨w.heap.size, 10, none⟩ (.bool has)).setCell ⟨w.heap.size, 11, none⟩ (.string ⟨tr.toArray⟩) = wf at *
              obtain ⟨r0, r1, r2, r3, r4, r5, r6, r7, r8, r9, r10, r11⟩ := HN.out.cells12
              obtain ⟨rfl, rfl, rfl⟩ := HX.out
              refine bodyPost_ret (v := .tuple #[.agg (nodeCells 1 st p 0 [] [] tx (.slice none 0 0) (.slice none 0 0) (.slice none 0 0) has tr).toArray, .int .i64 E, .int .i64 0]) ?_ rfl ?_
              · simp [results, Tryz.results73, go_sem, r0, r1, r2, r3, r4, r5, r6, r7, r8, r9, r10, r11]
              · exact ⟨rfl, below_drewN HBN.out 1⟩
end Go.Proofs.YtjfgcbikdibjeaaGreatDoor
