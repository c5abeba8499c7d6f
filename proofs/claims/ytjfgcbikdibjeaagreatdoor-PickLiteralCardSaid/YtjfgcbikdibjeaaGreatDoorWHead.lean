/- The walk of package bloc's header. -/
import Derived.Test.YtjfgcbikdibjeaaGreatDoorWBlocA
import Derived.Test.YtjfgcbikdibjeaaGreatDoorFrame
import Derived.Shelf.Strings.SlTrimAscii
namespace Go.Proofs.YtjfgcbikdibjeaaGreatDoor
open Go.RowKit U Go.Proofs

attribute [local go_sem] ite_min' ite_max'
def white2 : List UInt8 := [32, 9]
theorem byteH_all {p q : UInt8 → Bool} (h : ∀ i : Fin 256, p (UInt8.ofNat i.val) = q (UInt8.ofNat i.val)) : p = q := by
  funext b
  have := h ⟨b.toNat, b.toNat_lt⟩
  simpa using this
theorem white2_p : (fun b : UInt8 => white2.contains b) = wh := byteH_all (by decide +kernel)
theorem trimL_c (l : List UInt8) (w : World) (_hs : l.length ≤ 1073741824) :
    Calls Tryz.prog 151 #[.string ⟨l.toArray⟩, .string ⟨#[32, 9]⟩] w fun e w' => e = .returned (.string ⟨(bareM l).toArray⟩) ∧ Below w.heap.size w w' := by
  have hT := Any.strings_TrimLeft_laid Tryz.lays161 (by kernel_rfl) ⟨l.toArray⟩ ⟨white2.toArray⟩ w (by decide) (ascii_of_all (by decide))
  refine Calls.mono (show Calls Tryz.prog 151 _ _ _ from hT) ?_
  rintro e w' ⟨rfl, hb⟩
  refine ⟨ret_str ?_, hb⟩
  show Lib.trimLeftS l white2 = bareM l
  unfold Lib.trimLeftS bareM
  rw [white2_p]
theorem trimR_c (l : List UInt8) (w : World) (hs : l.length ≤ 1073741824) :
    Calls Tryz.prog 152 #[.string ⟨l.toArray⟩, .string ⟨#[32, 9]⟩] w fun e w' => e = .returned (.string ⟨(cutW l).toArray⟩) ∧ Below w.heap.size w w' := by
  have hT := Any.strings_TrimRight_laid Tryz.lays162 (by kernel_rfl) ⟨l.toArray⟩ ⟨white2.toArray⟩ w (by rw [size_mk]; omega) (by decide) (ascii_of_all (by decide))
  refine Calls.mono (show Calls Tryz.prog 152 _ _ _ from hT) ?_
  rintro e w' ⟨rfl, hb⟩
  refine ⟨ret_str ?_, hb⟩
  show ((l.reverse.dropWhile fun b => white2.contains b).reverse) = cutW l
  rw [white2_p]
  rfl
abbrev headCells (n keep : Nat) : List Value := [.int .i64 n, .int .u8 keep]
/-- The header's own blocks: the result, and what it has read. -/
def HW (w wr : World) (n keep : Nat) : Prop := Below w.heap.size w wr ∧ Full wr w.heap.size 128 (headCells 0 0) ∧ Full wr (w.heap.size + 1) 128 (headCells n keep)
theorem HW.setN {w wr : World} {n keep : Nat} (h : HW w wr n keep) (k : Nat) : HW w (wr.setCell ⟨w.heap.size + 1, 0, none⟩ (.int .i64 k)) k keep :=
  ⟨h.1.setCell (p := ⟨w.heap.size + 1, 0, none⟩) (Nat.le_succ _) _, h.2.1.put_far (p := ⟨w.heap.size + 1, 0, none⟩) (by simp) _, h.2.2.put 0 _⟩
theorem HW.setK {w wr : World} {n keep : Nat} (h : HW w wr n keep) (k : Nat) : HW w (wr.setCell ⟨w.heap.size + 1, 1, none⟩ (.int .u8 k)) n k :=
  ⟨h.1.setCell (p := ⟨w.heap.size + 1, 1, none⟩) (Nat.le_succ _) _, h.2.1.put_far (p := ⟨w.heap.size + 1, 1, none⟩) (by simp) _, h.2.2.put 1 _⟩
theorem HW.after {w wr w1 : World} {n keep : Nat} (h : HW w wr n keep) (hb : Below wr.heap.size wr w1) : HW w w1 n keep :=
  ⟨h.1.trans (hb.mono h.1.size), h.2.1.below hb h.2.1.lt, h.2.2.below hb h.2.2.lt⟩
theorem HW.start (w : World) : HW w ((w.alloc (.cells #[.int .i64 0, .int .u8 0] 128)).alloc (.cells #[.int .i64 0, .int .u8 0] 128)) 0 0 := by
  refine ⟨((Below.refl _ _).alloc (Nat.le_refl _) _).alloc (by simp) _, ?_, ?_⟩
  · exact (Full.new w _ (headCells 0 0)).alloc _
  · have := Full.new (w.alloc (.cells #[.int .i64 0, .int .u8 0] 128)) 128 (headCells 0 0)
    rw [show (w.alloc (.cells #[.int .i64 0, .int .u8 0] 128)).heap.size = w.heap.size + 1 by simp] at this
    exact this
/-- A node's cells. -/
abbrev nodeCells (k s a b : Int) (an tg tx : List UInt8) (kids lead foot : Value) (has : Bool) (trail : List UInt8) : List Value :=
  [.int .i64 k, .int .i64 s, .int .i64 a, .int .i64 b, .string ⟨an.toArray⟩, .string ⟨tg.toArray⟩, .string ⟨tx.toArray⟩, kids, lead, foot, .bool has, .string ⟨trail.toArray⟩]
def isDig (l : List UInt8) (s : Hd) : Bool := decide (s.1 = 0 ∧ 49 ≤ byt l s.2.2 ∧ byt l s.2.2 ≤ 57)
def isSgn (l : List UInt8) (s : Hd) : Bool := decide (s.2.1 = 0 ∧ (byt l s.2.2 = 43 ∨ byt l s.2.2 = 45))
theorem hdStep_bool (l : List UInt8) (s : Hd) : hdStep l s = if isDig l s then (byt l s.2.2 - 48, s.2.1, s.2.2 + 1) else if isSgn l s then (s.1, byt l s.2.2, s.2.2 + 1) else s := by
  unfold hdStep isDig isSgn
  simp only [decide_eq_true_eq]
/-- What the header's call leaves. -/
def HeadRet (w : World) (l : List UInt8) (p gx : Nat) (f : Bool → List UInt8 → List Value) (e : Ending) (w' : World) : Prop :=
  e = .returned (.tuple #[.agg #[.int .i64 (hdM l p).1, .int .u8 (hdM l p).2.1], .int .i64 (if hdBad l p then hdEnd l p else rowTo l p : Nat), .bool (!hdBad l p)]) ∧
    w.grownBy w' (some gx) ∧ (hdBad l p = false → Full w' gx 28 (f (hdHas l p) (hdTrail l p)))
theorem headRet_of {w wr : World} {l : List UInt8} {p gx n keep q e t : Nat} {bad has : Bool} {tr : List UInt8} {f : Bool → List UInt8 → List Value}
    (hr : hdM l p = (n, keep, q) ∧ hdEnd l p = e ∧ hdBad l p = bad ∧ hdHas l p = has ∧ hdTrail l p = tr ∧ rowTo l p = t) (hg : w.grownBy wr (some gx))
    (hF : bad = false → Full wr gx 28 (f has tr)) :
    HeadRet w l p gx f (.returned (.tuple #[.agg #[.int .i64 n, .int .u8 keep], .int .i64 (if bad then e else t : Nat), .bool (!bad)])) wr := by
  obtain ⟨h1, h2, h3, h4, h5, h6⟩ := hr
  unfold HeadRet
  rw [h1, h2, h3, h4, h5, h6]
  exact ⟨rfl, hg, hF⟩
/-- Behind the store of the result. -/
theorem HW.ret {w w1 : World} {n keep gx : Nat} {cs : List Value} (h : HW w w1 n keep) (hx : Full w gx 28 cs) :
    w.grownBy ((w1.setCell ⟨w.heap.size, 0, none⟩ (.int .i64 n)).setCell ⟨w.heap.size, 1, none⟩ (.int .u8 keep)) (some gx) ∧
    Full ((w1.setCell ⟨w.heap.size, 0, none⟩ (.int .i64 n)).setCell ⟨w.heap.size, 1, none⟩ (.int .u8 keep)) gx 28 cs ∧
    Full ((w1.setCell ⟨w.heap.size, 0, none⟩ (.int .i64 n)).setCell ⟨w.heap.size, 1, none⟩ (.int .u8 keep)) w.heap.size 128 (headCells n keep) := by
  have hb := (h.1.setCell (p := ⟨w.heap.size, 0, none⟩) (Nat.le_refl _) (.int .i64 n)).setCell (p := ⟨w.heap.size, 1, none⟩) (Nat.le_refl _) (.int .u8 keep)
  exact ⟨⟨hb.os, hb.tape, hb.output, hb.size, fun k hk _ => hb.block k hk⟩, hx.below hb hx.lt, (h.2.1.put 0 _).put 1 _⟩
/-- With the caller's node turned. -/
def HG (w wr : World) (gx : Nat) (cs : List Value) (n keep : Nat) : Prop :=
  w.grownBy wr (some gx) ∧ Full wr gx 28 cs ∧ Full wr w.heap.size 128 (headCells 0 0) ∧ Full wr (w.heap.size + 1) 128 (headCells n keep)
theorem grown_far {a w : World} {g : Nat} (h : a.grownBy w (some g)) {p : Addr} (hp : a.heap.size ≤ p.block) (u : Value) : a.grownBy (w.setCell p u) (some g) :=
  ⟨h.os, h.tape, h.output, by simpa [World.setCell] using h.size, fun k hk hne => by
    rw [← h.block k hk hne]
    have : ¬ p.block = k := by omega
    simp [World.setCell, Array.getElem?_modify, this]⟩
theorem HW.hg {w w1 : World} {n keep gx : Nat} {cs : List Value} (h : HW w w1 n keep) (hx : Full w gx 28 cs) : HG w w1 gx cs n keep :=
  ⟨⟨h.1.os, h.1.tape, h.1.output, h.1.size, fun k hk _ => h.1.block k hk⟩, hx.below h.1 hx.lt, h.2.1, h.2.2⟩
theorem HG.put {w w1 : World} {n keep gx : Nat} {cs : List Value} (h : HG w w1 gx cs n keep) (hg : gx < w.heap.size) (i : Nat) (u : Value) : HG w (w1.setCell ⟨gx, i, none⟩ u) gx (cs.set i u) n keep :=
  ⟨only_put h.1 i u, h.2.1.put i u, h.2.2.1.put_far (p := ⟨gx, i, none⟩) (by show gx ≠ _; omega) u, h.2.2.2.put_far (p := ⟨gx, i, none⟩) (by show gx ≠ _; omega) u⟩
theorem HG.ret {w w1 : World} {n keep gx : Nat} {cs : List Value} (h : HG w w1 gx cs n keep) (hg : gx < w.heap.size) :
    w.grownBy ((w1.setCell ⟨w.heap.size, 0, none⟩ (.int .i64 n)).setCell ⟨w.heap.size, 1, none⟩ (.int .u8 keep)) (some gx) ∧
    Full ((w1.setCell ⟨w.heap.size, 0, none⟩ (.int .i64 n)).setCell ⟨w.heap.size, 1, none⟩ (.int .u8 keep)) gx 28 cs ∧
    Full ((w1.setCell ⟨w.heap.size, 0, none⟩ (.int .i64 n)).setCell ⟨w.heap.size, 1, none⟩ (.int .u8 keep)) w.heap.size 128 (headCells n keep) :=
  ⟨grown_far (grown_far h.1 (p := ⟨w.heap.size, 0, none⟩) (Nat.le_refl _) _) (p := ⟨w.heap.size, 1, none⟩) (Nat.le_refl _) _,
    (h.2.1.put_far (p := ⟨w.heap.size, 0, none⟩) (by show w.heap.size ≠ _; omega) _).put_far (p := ⟨w.heap.size, 1, none⟩) (by show w.heap.size ≠ _; omega) _, (h.2.2.1.put 0 _).put 1 _⟩
set_option maxRecDepth 100000 in
set_option maxHeartbeats 8000000 in
theorem header_c (l : List UInt8) (p gx : Nat) (k s a b : Int) (tx : List UInt8) (kids lead foot : Value) (w : World) (hx : Full w gx 28 (nodeCells k s a b [] [] tx kids lead foot false [])) (hs : l.length ≤ 1000000) (hp : p ≤ l.length) :
    Calls Tryz.prog 115 #[.string ⟨l.toArray⟩, .int .i64 p, .pointer (some ⟨gx, 0, none⟩)] w (HeadRet w l p gx fun has tr => nodeCells k s a b [] [] tx kids lead foot has tr) := by
  have hgx := hx.lt
  have HX := Lib.hid hx
  have hHW := HW.start w
  go_enter Tryz.func115, Tryz.ntmps115
  go_wp2_with fail
  generalize (w.alloc (.cells #[.int .i64 0, .int .u8 0] 128)).alloc (.cells #[.int .i64 0, .int .u8 0] 128) = w0 at *
  go_loopg [1, 13] 2 (fun gk s1 s13 wr => ∃ (j : Nat) (h : Hd), j ≤ 2 ∧ gk = 2 - j ∧ s13 = .int .i64 j ∧ s1 = .int .i64 h.2.2 ∧ h.2.2 ≤ l.length ∧ Hid (HW w wr h.1 h.2.1) ∧ Hid (hdIter l (2 - j) h = hdM l p) ∧ h.1 ≤ 9 ∧ (h.2.1 = 0 ∨ h.2.1 = 43 ∨ h.2.1 = 45))
  case atStart => exact ⟨0, (0, 0, p), by omega, rfl, rfl, rfl, hp, Lib.hid hHW, Lib.hid rfl, by simp, .inl rfl⟩
  case round =>
    clear hHW
    obtain ⟨j, h, hj, hgk, rfl, rfl, hh, HH, HI, h9, hsg⟩ := hrel
    obtain ⟨n, keep, q⟩ := h
    simp only [] at hh HH HI h9 hsg ⊢
    have c0 := HH.out.2.2.cell 0
    have c1 := HH.out.2.2.cell 1
    have f0 := HH.out.2.2.free 0
    have f1 := HH.out.2.2.free 1
    simp only [List.getElem?_cons_zero, List.getElem?_cons_succ] at c0 c1
    by_cases hj2 : j < 2
    · have HSt : Hid (hdIter l (2 - (j + 1)) (hdStep l (n, keep, q)) = hdM l p) := Lib.hid (by
        have h1 := HI.out
        rw [show 2 - j = (2 - (j + 1)) + 1 by omega, hdIter] at h1
        exact h1)
      have hsb := hdStep_bool l (n, keep, q)
      have hdi : isDig l (n, keep, q) = decide (n = 0 ∧ 49 ≤ byt l q ∧ byt l q ≤ 57) := rfl
      have hsi : isSgn l (n, keep, q) = decide (keep = 0 ∧ (byt l q = 43 ∨ byt l q = 45)) := rfl
      have hsN := HH.out.setN (byt l q - 48)
      have hsK := HH.out.setK (byt l q)
      clear HI
      by_cases hql : q < l.length
      · have gl : ((q : Int) == l.length) = false := by rw [beq_eq_false_iff_ne]; omega
        simp only [] at hsb
        generalize isDig l (n, keep, q) = dg at *
        generalize isSgn l (n, keep, q) = sg at *
        have HDI := Lib.hid hdi
        have HSI := Lib.hid hsi
        have HSB := Lib.hid hsb
        have HSN := Lib.hid hsN
        have HSK := Lib.hid hsK
        clear hdi hsi hsb hsN hsK
        go_upto_region 5 with fail
        go_cut [20] (fun s wx => s = .bool dg ∧ wr = wx)
        case first =>
          have hd := HDI.out
          clear HDI HSI HSB HSN HSK HSt
          by_cases h0 : n = 0
          · have g0 : ((n : Int) == 0) = true := by rw [h0]; rfl
            by_cases h1 : 49 ≤ byt l q
            · by_cases h2 : byt l q ≤ 57
              · obtain rfl : dg = true := by rw [hd]; exact decide_eq_true ⟨h0, h1, h2⟩
                clear hd h0
                go_wp2_with fail
                go_meet
                exact ⟨by rw [decide_eq_true (by omega)], rfl⟩
              · obtain rfl : dg = false := by rw [hd]; exact decide_eq_false (fun x => h2 x.2.2)
                clear hd h0
                go_wp2_with fail
                go_meet
                exact ⟨by rw [decide_eq_false (by omega)], rfl⟩
            · obtain rfl : dg = false := by rw [hd]; exact decide_eq_false (fun x => h1 x.2.1)
              clear hd h0
              go_wp2_with fail
              go_meet
              exact ⟨rfl, rfl⟩
          · have g0 : ((n : Int) == 0) = false := by rw [beq_eq_false_iff_ne]; omega
            obtain rfl : dg = false := by rw [hd]; exact decide_eq_false (fun x => h0 x.1)
            clear hd h0
            go_wp2_with fail
            go_meet
            exact ⟨rfl, rfl⟩
        case rest =>
          obtain ⟨rfl, rfl⟩ := hcut
          cases dg with
          | true =>
            obtain ⟨hn0, hb1, hb2⟩ := of_decide_eq_true HDI.out.symm
            have HR : Hid (hdIter l (2 - (j + 1)) (byt l q - 48, keep, q + 1) = hdM l p) := Lib.hid (by
              have h1 := HSt.out
              rw [HSB.out, if_pos rfl] at h1
              exact h1)
            have hcast : ((byt l q - 48 : Nat) : Int) = (byt l q : Int) - 48 := by omega
            have hN := HSN.out
            rw [hcast] at hN
            have HN := Lib.hid hN
            have hw8 : IntKind.u8.wrap ((byt l q : Int) - 48) = (byt l q : Int) - 48 := IntWalk.u8_in _ (by omega)
            clear HDI HSI HSB HSN HSK HSt hN hn0
            go_wp2_with fail
            go_roundg (2 - (j + 1))
            case measure => omega
            case rel => exact ⟨j + 1, (byt l q - 48, keep, q + 1), by omega, rfl, by go_num, by go_num, by simp only []; omega, Lib.hid HN.out, HR, by simp only []; omega, hsg⟩
          | false =>
            clear HDI HSN
            go_upto_region 8 with fail
            go_cut [44] (fun s wx => s = .bool sg ∧ wr = wx)
            case first =>
              have hd := HSI.out
              clear HSI HSB HSK HSt
              by_cases h0 : keep = 0
              · have g0 : ((keep : Int) == 0) = true := by rw [h0]; rfl
                by_cases h1 : byt l q = 43
                · have g1 : ((byt l q : Int) == 43) = true := by rw [h1]; rfl
                  obtain rfl : sg = true := by rw [hd]; exact decide_eq_true ⟨h0, .inl h1⟩
                  clear hd h0 h1
                  go_wp2_with fail
                  go_meet
                  exact ⟨rfl, rfl⟩
                · have g1 : ((byt l q : Int) == 43) = false := by rw [beq_eq_false_iff_ne]; omega
                  by_cases h2 : byt l q = 45
                  · have g2 : ((byt l q : Int) == 45) = true := by rw [h2]; rfl
                    obtain rfl : sg = true := by rw [hd]; exact decide_eq_true ⟨h0, .inr h2⟩
                    clear hd h0 h1 h2
                    go_wp2_with fail
                    go_meet
                    exact ⟨rfl, rfl⟩
                  · have g2 : ((byt l q : Int) == 45) = false := by rw [beq_eq_false_iff_ne]; omega
                    obtain rfl : sg = false := by rw [hd]; exact decide_eq_false (fun x => x.2.elim h1 h2)
                    clear hd h0 h1 h2
                    go_wp2_with fail
                    go_meet
                    exact ⟨rfl, rfl⟩
              · have g0 : ((keep : Int) == 0) = false := by rw [beq_eq_false_iff_ne]; omega
                obtain rfl : sg = false := by rw [hd]; exact decide_eq_false (fun x => h0 x.1)
                clear hd h0
                go_wp2_with fail
                go_meet
                exact ⟨rfl, rfl⟩
            case rest =>
              obtain ⟨rfl, rfl⟩ := hcut
              cases sg with
              | true =>
                obtain ⟨hk0, hb⟩ := of_decide_eq_true HSI.out.symm
                have HR : Hid (hdIter l (2 - (j + 1)) (n, byt l q, q + 1) = hdM l p) := Lib.hid (by
                  have h1 := HSt.out
                  rw [HSB.out, if_neg (by decide), if_pos rfl] at h1
                  exact h1)
                have HB := Lib.hid hb
                clear HSI HSB HSt hk0 hb
                go_wp2_with fail
                go_roundg (2 - (j + 1))
                case measure => omega
                case rel => exact ⟨j + 1, (n, byt l q, q + 1), by omega, rfl, by go_num, by go_num, by simp only []; omega, HSK, HR, h9, .inr HB.out⟩
              | false =>
                have HR : Hid (hdIter l (2 - (j + 1)) (n, keep, q) = hdM l p) := Lib.hid (by
                  have h1 := HSt.out
                  rw [HSB.out, if_neg (by decide), if_neg (by decide)] at h1
                  exact h1)
                clear HSI HSB HSt HSK
                go_wp2_with fail
                go_roundg (2 - (j + 1))
                case measure => omega
                case rel => exact ⟨j + 1, (n, keep, q), by omega, rfl, by go_num, rfl, hh, HH, HR, h9, hsg⟩
      · have gl : ((q : Int) == l.length) = true := by rw [beq_iff_eq]; omega
        have hb0 : byt l q = 0 := byt_ge _ _ (by omega)
        have HR : Hid (hdIter l (2 - (j + 1)) (n, keep, q) = hdM l p) := Lib.hid (by
          have h1 := HSt.out
          rw [hsb, hdi, hsi, if_neg (by rw [decide_eq_true_iff, hb0]; omega), if_neg (by rw [decide_eq_true_iff, hb0]; omega)] at h1
          exact h1)
        clear hsb hdi hsi hsN hsK HSt hb0
        go_wp2_with fail
        go_roundg (2 - (j + 1))
        case measure => omega
        case rel => exact ⟨j + 1, (n, keep, q), by omega, rfl, by go_num, rfl, hh, HH, HR, h9, hsg⟩
    · obtain rfl : j = 2 := by omega
      have hM : hdM l p = (n, keep, q) := HI.out.symm
      have hT : rowTo l p = rowTo l q := by
        have := (hdM_is hp).2.2.2.2
        rw [hM] at this
        exact this.symm
      have hE : hdEnd l p = q + run whN l q := by unfold hdEnd; rw [hM]
      have hBd : hdBad l p = decide (hdEnd l p < rowTo l p ∧ (byt l (hdEnd l p) ≠ 35 ∨ hdEnd l p = q)) := by unfold hdBad; rw [hM]
      have hHas : hdHas l p = decide (hdEnd l p < rowTo l p) := rfl
      have hTr : hdTrail l p = if hdHas l p then noteTx l (hdEnd l p) else [] := rfl
      have hR := fun w => row_n l q w (by omega) hh
      have hfq := rowFrom_le l q
      have htl := rowTo_le hh
      have hqt := rowTo_ge l q
      have het : hdEnd l p ≤ rowTo l q := by rw [hE]; exact first_row q
      have heq : q ≤ hdEnd l p := by omega
      have hbr : bareM ((l.drop q).take (rowTo l q - q)) = (l.drop (hdEnd l p)).take (rowTo l q - hdEnd l p) := by rw [hE]; exact bare_row l q (rowTo l q) hh
      have hnt : noteTx l (hdEnd l p) = cutW ((l.drop (hdEnd l p)).take (rowTo l q - hdEnd l p)).tail := by
        have hs2 : rowTo l (hdEnd l p) = rowTo l q := by
          refine rowTo_same heq (by omega) fun i h1 h2 => ?_
          have := run_all (P := whN) (l := l) i q h1 (by omega)
          intro e10
          rw [e10] at this
          cases this
        unfold noteTx
        rw [hs2, ← List.drop_one, List.drop_take, List.drop_drop]
        congr 2
      obtain ⟨e, hee⟩ : ∃ e, hdEnd l p = e := ⟨_, rfl⟩
      obtain ⟨bad, hbb⟩ : ∃ x, hdBad l p = x := ⟨_, rfl⟩
      obtain ⟨has, hhh⟩ : ∃ x, hdHas l p = x := ⟨_, rfl⟩
      obtain ⟨tr, htt⟩ : ∃ x, hdTrail l p = x := ⟨_, rfl⟩
      obtain ⟨nt, hnn⟩ : ∃ x, noteTx l (hdEnd l p) = x := ⟨_, rfl⟩
      rw [hnn] at hnt hTr
      rw [htt, hhh] at hTr
      rw [hhh, hee, hT] at hHas
      rw [hbb, hee, hT] at hBd
      rw [hee] at het heq hbr hnt
      have HRES : Hid (hdM l p = (n, keep, q) ∧ hdEnd l p = e ∧ hdBad l p = bad ∧ hdHas l p = has ∧ hdTrail l p = tr ∧ rowTo l p = rowTo l q) := Lib.hid ⟨hM, hee, hbb, hhh, htt, hT⟩
      clear hM hee hbb hhh htt hnn hT hE
      obtain ⟨m, hm⟩ : ∃ m, (l.drop e).take (rowTo l q - e) = m := ⟨_, rfl⟩
      have hml : m.length = rowTo l q - e := by rw [← hm, List.length_take, List.length_drop]; omega
      have hm0 : e < rowTo l q → byt m 0 = byt l e := fun h => by rw [← hm, byt_take _ _ _ (by omega), byt_drop, Nat.add_zero]
      rw [hm] at hbr hnt
      have htm := fun w => trimL_c ((l.drop q).take (rowTo l q - q)) w (by rw [List.length_take, List.length_drop]; omega)
      rw [hbr] at htm
      clear hm hbr HI
      generalize rowTo l q = t at *
      generalize rowFrom l q = fr at *
      have H := HH
      clear HH c0 c1 f0 f1
      go_wp2_with fail
      refine (hR _).mono ?_
      rintro e1 w1 ⟨rfl, rfl⟩
      go_wp2_with fail
      refine (htm _).mono ?_
      rintro e1 w1 ⟨rfl, hb1⟩
      have H2 := Lib.hid (H.out.after hb1)
      clear H hb1 htm hR
      have c0 := H2.out.2.2.cell 0
      have c1 := H2.out.2.2.cell 1
      have d0 := H2.out.2.1.cell 0
      have d1 := H2.out.2.1.cell 1
      have f0 := H2.out.2.1.free 0
      have f1 := H2.out.2.1.free 1
      simp only [List.getElem?_cons_zero, List.getElem?_cons_succ] at c0 c1 d0 d1
      by_cases het2 : e < t
      · have hmm := hm0 het2
        have hme : m.isEmpty = false := by cases m with | nil => simp at hml; omega | cons _ _ => rfl
        have hml1 : 1 ≤ m.length := by omega
        have hsub : (t : Int) - (m.length : Int) = e := by omega
        by_cases h35 : byt l e = 35
        · have g35 : ((byt m 0 : Int) != 35) = false := by rw [hmm, h35]; rfl
          by_cases heq2 : e = q
          · have hbd : bad = true := by rw [hBd]; exact decide_eq_true ⟨het2, .inr heq2⟩
            have glen : ((m.length : Int) == (t : Int) - (q : Int)) = true := by rw [beq_iff_eq]; omega
            subst hbd
            clear hBd hHas hm0 hnt hml hmm h35 heq2
            go_wp2_with fail
            have hfin := H2.out.ret HX.out
            generalize (w1.setCell ⟨w.heap.size, 0, none⟩ (.int .i64 n)).setCell ⟨w.heap.size, 1, none⟩ (.int .u8 keep) = wf at *
            have r0 := hfin.2.2.cell 0
            have r1 := hfin.2.2.cell 1
            simp only [List.getElem?_cons_zero, List.getElem?_cons_succ] at r0 r1
            refine bodyPost_ret (v := .tuple #[.agg #[.int .i64 n, .int .u8 keep], .int .i64 e, .bool false]) ?_ rfl ?_
            · simp [results, Tryz.results115, go_sem, r0, r1]
            · exact headRet_of HRES.out hfin.1 (fun h => by cases h)
          · have hbd : bad = false := by rw [hBd]; exact decide_eq_false (fun x => x.2.elim (fun y => y h35) heq2)
            have hhs : has = true := by rw [hHas]; exact decide_eq_true het2
            have glen : ((m.length : Int) == (t : Int) - (q : Int)) = false := by rw [beq_eq_false_iff_ne]; omega
            have htR := fun w => trimR_c m.tail w (by rw [List.length_tail]; omega)
            rw [← hnt] at htR
            subst hbd
            clear hBd hHas hm0 hnt hml hmm h35 heq2
            go_wp2_with fail
            refine (htR _).mono ?_
            rintro e1 w2 ⟨rfl, hb2⟩
            have hG := (H2.out.after hb2).hg HX.out
            have hG2 := (hG.put hgx 10 (.bool true)).put hgx 11 (.string ⟨nt.toArray⟩)
            have HG2 := Lib.hid hG2
            have k0 := hG.2.2.2.cell 0
            have k1 := hG.2.2.2.cell 1
            have x10 := hG.2.1.free 10
            have x11 := hG.2.1.free 11
            have y10 := hG.2.1.cell 10
            have y11 := hG.2.1.cell 11
            simp only [List.getElem?_cons_zero, List.getElem?_cons_succ] at k0 k1 y10 y11
            have hnx : w.heap.size + 1 ≠ gx := by omega
            clear c0 c1 d0 d1 f0 f1 hG hG2
            go_upto_region 19 with fail
            clear k0 k1 x10 x11 y10 y11
            generalize (w2.setCell ⟨gx, 10, none⟩ (.bool true)).setCell ⟨gx, 11, none⟩ (.string ⟨nt.toArray⟩) = w3 at *
            have c0 := HG2.out.2.2.2.cell 0
            have c1 := HG2.out.2.2.2.cell 1
            have d0 := HG2.out.2.2.1.cell 0
            have d1 := HG2.out.2.2.1.cell 1
            have f0 := HG2.out.2.2.1.free 0
            have f1 := HG2.out.2.2.1.free 1
            simp only [List.getElem?_cons_zero, List.getElem?_cons_succ] at c0 c1 d0 d1
            go_wp2_with fail
            have hfin := HG2.out.ret hgx
            generalize (w3.setCell ⟨w.heap.size, 0, none⟩ (.int .i64 n)).setCell ⟨w.heap.size, 1, none⟩ (.int .u8 keep) = wf at *
            have r0 := hfin.2.2.cell 0
            have r1 := hfin.2.2.cell 1
            simp only [List.getElem?_cons_zero, List.getElem?_cons_succ] at r0 r1
            refine bodyPost_ret (v := .tuple #[.agg #[.int .i64 n, .int .u8 keep], .int .i64 t, .bool true]) ?_ rfl ?_
            · simp [results, Tryz.results115, go_sem, r0, r1]
            · exact headRet_of HRES.out hfin.1 (fun _ => by rw [hTr, hhs]; exact hfin.2.1)
        · have g35 : ((byt m 0 : Int) != 35) = true := by rw [hmm]; simp; omega
          have hbd : bad = true := by rw [hBd]; exact decide_eq_true ⟨het2, .inl h35⟩
          subst hbd
          clear hBd hHas hm0 hnt hml hmm h35
          go_wp2_with fail
          have hfin := H2.out.ret HX.out
          generalize (w1.setCell ⟨w.heap.size, 0, none⟩ (.int .i64 n)).setCell ⟨w.heap.size, 1, none⟩ (.int .u8 keep) = wf at *
          have r0 := hfin.2.2.cell 0
          have r1 := hfin.2.2.cell 1
          simp only [List.getElem?_cons_zero, List.getElem?_cons_succ] at r0 r1
          refine bodyPost_ret (v := .tuple #[.agg #[.int .i64 n, .int .u8 keep], .int .i64 e, .bool false]) ?_ rfl ?_
          · simp [results, Tryz.results115, go_sem, r0, r1]
          · exact headRet_of HRES.out hfin.1 (fun h => by cases h)
      · have hm : m = [] := List.length_eq_zero_iff.1 (by omega)
        have hbd : bad = false := by rw [hBd]; exact decide_eq_false (fun x => het2 x.1)
        have hhs : has = false := by rw [hHas]; exact decide_eq_false het2
        subst hm
        clear hBd hHas hm0 hnt hml
        go_wp2_with fail
        have hfin := H2.out.ret HX.out
        generalize (w1.setCell ⟨w.heap.size, 0, none⟩ (.int .i64 n)).setCell ⟨w.heap.size, 1, none⟩ (.int .u8 keep) = wf at *
        have r0 := hfin.2.2.cell 0
        have r1 := hfin.2.2.cell 1
        simp only [List.getElem?_cons_zero, List.getElem?_cons_succ] at r0 r1
        subst hbd
        refine bodyPost_ret (v := .tuple #[.agg #[.int .i64 n, .int .u8 keep], .int .i64 t, .bool true]) ?_ rfl ?_
        · simp [results, Tryz.results115, go_sem, r0, r1]
        · exact headRet_of HRES.out hfin.1 (fun _ => by rw [hTr, hhs]; exact hfin.2.1)
end Go.Proofs.YtjfgcbikdibjeaaGreatDoor
