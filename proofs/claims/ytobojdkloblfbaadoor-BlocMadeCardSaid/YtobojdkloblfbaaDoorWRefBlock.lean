/- The walk of the document's Read of block scalars. -/
import Derived.Test.YtobojdkloblfbaaDoorWBlocRead
import Derived.Test.YtobojdkloblfbaaDoorWRefHead
import Derived.Test.YtobojdkloblfbaaDoorWRefFold
import Derived.Test.YtobojdkloblfbaaDoorPBloc5
import Derived.StillTailTactics
namespace Go.Proofs.YtobojdkloblfbaaDoor
open Go.RowKit U Go.Proofs

attribute [local go_sem] ite_min' ite_max'
/-- A row may stand. -/
def OkR (ok bk first : Bool) (hn W i : Nat) : Prop := ok = true ∧ (bk = true → first = true → hn = 0 → ¬ W < i)
theorem okR_of {ok bk first : Bool} {hn W i : Nat} (h1 : ok = true) (h2 : bk = true → first = true → hn = 0 → ¬ W < i) : OkR ok bk first hn W i := ⟨h1, h2⟩
set_option maxRecDepth 100000 in
set_option maxHeartbeats 1000000 in
theorem rblanks_c (l : List UInt8) (p : Nat) (w : World) (hs : l.length ≤ 1000000) (hp : p ≤ l.length) :
    Calls Tryd.prog 84 #[.string ⟨l.toArray⟩, .int .i64 (rowFrom l p), .int .i64 (rowTo l p)] w fun e w' => e = .returned (.bool (blankB l p)) ∧ w = w' := by
  have hI := fun w => rin_n l (rowFrom l p) w (by omega) (Nat.le_trans (rowFrom_le l p) hp)
  have hin : inM l (rowFrom l p) = inM l p := by unfold inM; rw [rowFrom_self]
  have hft := from_le_to l p
  have htl := rowTo_le hp
  have hb : blankB l p = ((inM l p : Int) == (rowTo l p : Int) - (rowFrom l p : Int)) := by
    rw [blank_in hp, Bool.eq_iff_iff, decide_eq_true_iff, beq_iff_eq]
    omega
  rw [hin] at hI
  rw [hb]
  clear hin hb
  generalize rowFrom l p = f at *
  generalize rowTo l p = t at *
  generalize inM l p = i at *
  go_enter Tryd.func84, Tryd.ntmps84
  go_wp2_with fail
  refine (hI _).mono ?_
  rintro e w1 ⟨rfl, rfl⟩
  go_wp2_with fail
  go_ret
  exact ⟨rfl, rfl⟩
set_option maxRecDepth 100000 in
set_option maxHeartbeats 8000000 in
theorem rblock_no (l : List UInt8) (a n : Int) (w : World) (_hs : l.length ≤ 1000000) (h : startB l a = false) :
    Calls Tryd.prog 59 #[.string ⟨l.toArray⟩, .int .i64 a, .int .i64 n] w (BlRet w .zero a 5) := by
  have hst : ¬ (0 ≤ a ∧ a < l.length ∧ (byt l a.toNat = 124 ∨ byt l a.toNat = 62)) := of_decide_eq_false h
  have hF := Full.new w 52 zeroNode
  have hB : Below w.heap.size w (w.alloc (.cells zeroNode.toArray 52)) := (Below.refl _ _).alloc (Nat.le_refl _) _
  clear h
  go_enter Tryd.func59, Tryd.ntmps59
  go_upto_region 1 with fail
  generalize w.alloc (.cells #[.int .i64 0, .int .i64 0, .int .i64 0, .int .i64 0, .string ⟨#[]⟩, .string ⟨#[]⟩, .string ⟨#[]⟩, .slice none 0 0, .slice none 0 0, .slice none 0 0, .bool false, .string ⟨#[]⟩] 52) = w0 at *
  go_cut [53] from 34 to 53 (fun s wx => s = .bool true ∧ w0 = wx)
  case first =>
    by_cases h0 : a < 0
    · clear hst
      go_wp2_with fail
      go_meet
      exact ⟨rfl, rfl⟩
    · by_cases h1 : a < l.length
      · obtain ⟨p, rfl⟩ : ∃ p : Nat, a = p := ⟨a.toNat, by omega⟩
        rw [Int.toNat_natCast] at hst
        have g1 : ((byt l p : Int) != 124) = true := by simp; omega
        have g2 : ((byt l p : Int) != 62) = true := by simp; omega
        have hp : p < l.length := by omega
        clear hst
        go_wp2_with fail
        go_meet
        exact ⟨rfl, rfl⟩
      · clear hst
        have g1 : decide (a < (l.length : Int)) = false := decide_eq_false h1
        have g2 : decide ((l.length : Int) ≤ a) = true := decide_eq_true (by omega)
        go_wp2_with fail
        go_meet
        exact ⟨rfl, rfl⟩
  case rest =>
    obtain ⟨rfl, rfl⟩ := hcut
    obtain ⟨d0, d1, d2, d3, d4, d5, d6, d7, d8, d9, d10, d11⟩ := hF.cells12
    obtain ⟨f0, f1, f2, f3, f4, f5, f6, f7, f8, f9, f10, f11⟩ := hF.free12
    have hN := hF.store12 (.int .i64 0) (.int .i64 0) (.int .i64 0) (.int .i64 0) (.string ⟨#[]⟩) (.string ⟨#[]⟩) (.string ⟨#[]⟩) (.slice none 0 0) (.slice none 0 0) (.slice none 0 0) (.bool false) (.string ⟨#[]⟩)
    have hBN := below12 hB (Nat.le_refl _) (.int .i64 0) (.int .i64 0) (.int .i64 0) (.int .i64 0) (.string ⟨#[]⟩) (.string ⟨#[]⟩) (.string ⟨#[]⟩) (.slice none 0 0) (.slice none 0 0) (.slice none 0 0) (.bool false) (.string ⟨#[]⟩)
    have HN := Lib.hid hN
    have HBN := Lib.hid hBN
    clear hN hBN hF hB
    go_wp2_with fail
    generalize ((((((((((((w0).setCell ⟨w.heap.size, 0, none⟩ (.int .i64 0)).setCell ⟨w.heap.size, 1, none⟩ (.int .i64 0)).setCell ⟨w.heap.size, 2, none⟩ (.int .i64 0)).setCell ⟨w.heap.size, 3, none⟩ (.int .i64 0)).setCell ⟨w.heap.size, 4, none⟩ (.string ⟨#[]⟩)).setCell ⟨w.heap.size, 5, none⟩ (.string ⟨#[]⟩)).setCell ⟨w.heap.size, 6, none⟩ (.string ⟨#[]⟩)).setCell ⟨w.heap.size, 7, none⟩ (.slice none 0 0)).setCell ⟨w.heap.size, 8, none⟩ (.slice none 0 0)).setCell ⟨w.heap.size, 9, none⟩ (.slice none 0 0)).setCell ⟨w.heap.size, 10, none⟩ (.bool false)).setCell ⟨w.heap.size, 11, none⟩ (.string ⟨#[]⟩) = wf at *
    obtain ⟨r0, r1, r2, r3, r4, r5, r6, r7, r8, r9, r10, r11⟩ := HN.out.cells12
    refine bodyPost_ret (v := .tuple #[.agg zeroNode.toArray, .int .i64 a, .int .i64 5]) ?_ rfl ?_
    · simp [results, Tryd.results59, go_sem, r0, r1, r2, r3, r4, r5, r6, r7, r8, r9, r10, r11]
    · exact ⟨rfl, HBN.out⟩
set_option maxRecDepth 100000 in
set_option maxHeartbeats 16000000 in
theorem rblock_yes (l : List UInt8) (p : Nat) (n : Int) (w : World) (hs : l.length ≤ 900000) (hp : p < l.length) (hb : byt l p = 124 ∨ byt l p = 62) (hn1 : -9223372036854775808 ≤ n) (hn2 : n ≤ 9223372036854775807) :
    Calls Tryd.prog 59 #[.string ⟨l.toArray⟩, .int .i64 p, .int .i64 n] w (BlRet w (blocOf l p n).1 (blocOf l p n).2.1 (blocOf l p n).2.2) := by
  obtain ⟨R, hRR⟩ : ∃ R, blocOf l p n = R := ⟨_, rfl⟩
  rw [hRR]
  obtain ⟨x1, x2, x3⟩ := R
  simp only []
  have hF := Full.new w 52 zeroNode
  have hB : Below w.heap.size w (w.alloc (.cells zeroNode.toArray 52)) := (Below.refl _ _).alloc (Nat.le_refl _) _
  have hS : (w.alloc (.cells zeroNode.toArray 52)).heap.size = w.heap.size + 1 := by simp
  have hfo : folds l p = decide (byt l p = 62) := rfl
  obtain ⟨fo, hfo2⟩ : ∃ fo, folds l p = fo := ⟨_, rfl⟩
  rw [hfo2] at hfo
  have hHd := fun w => rheader_c l p w (by omega) hp (by omega)
  go_enter Tryd.func59, Tryd.ntmps59
  go_upto_region 1 with fail
  generalize w.alloc (.cells #[.int .i64 0, .int .i64 0, .int .i64 0, .int .i64 0, .string ⟨#[]⟩, .string ⟨#[]⟩, .string ⟨#[]⟩, .slice none 0 0, .slice none 0 0, .slice none 0 0, .bool false, .string ⟨#[]⟩] 52) = w0 at *
  go_cut [53] from 34 to 53 (fun s wx => s = .bool false ∧ w0 = wx)
  case first =>
    rcases hb with hb | hb
    · have g1 : ((byt l p : Int) != 124) = false := by rw [hb]; rfl
      clear hb hHd
      go_wp2_with fail
      go_meet
      exact ⟨by rw [decide_eq_false (by omega), decide_eq_false (by omega)]; rfl, rfl⟩
    · have g1 : ((byt l p : Int) != 124) = true := by rw [hb]; rfl
      have g2 : ((byt l p : Int) != 62) = false := by rw [hb]; rfl
      clear hb hHd
      go_wp2_with fail
      go_meet
      exact ⟨by rw [decide_eq_false (by omega), decide_eq_false (by omega)]; rfl, rfl⟩
  case rest =>
    obtain ⟨rfl, rfl⟩ := hcut
    cases hbad : hdBad l (p + 1) with
    | true =>
      have hrh : rhead l p = .tuple #[.int .i64 0, .int .i64 0, .int .u8 0, .string ⟨#[]⟩, .bool false, .int .i64 (hdEnd l (p + 1))] := by unfold rhead; rw [if_pos hbad]
      have hres := blocOf_bad (n := n) hbad
      rw [hRR] at hres
      obtain ⟨rfl, rfl, rfl⟩ : x1 = BN.zero ∧ x2 = (hdEnd l (p + 1) : Int) ∧ x3 = 5 := by
        injection hres with h1 h2
        injection h2 with h2 h3
        exact ⟨h1, h2, h3⟩
      clear hRR hres hb hfo hfo2 hS hbad
      generalize hdEnd l (p + 1) = he at *
      obtain ⟨d0, d1, d2, d3, d4, d5, d6, d7, d8, d9, d10, d11⟩ := hF.cells12
      obtain ⟨f0, f1, f2, f3, f4, f5, f6, f7, f8, f9, f10, f11⟩ := hF.free12
      have hN := hF.store12 (.int .i64 0) (.int .i64 0) (.int .i64 0) (.int .i64 0) (.string ⟨#[]⟩) (.string ⟨#[]⟩) (.string ⟨#[]⟩) (.slice none 0 0) (.slice none 0 0) (.slice none 0 0) (.bool false) (.string ⟨#[]⟩)
      have hBN := below12 hB (Nat.le_refl _) (.int .i64 0) (.int .i64 0) (.int .i64 0) (.int .i64 0) (.string ⟨#[]⟩) (.string ⟨#[]⟩) (.string ⟨#[]⟩) (.slice none 0 0) (.slice none 0 0) (.slice none 0 0) (.bool false) (.string ⟨#[]⟩)
      have HN := Lib.hid hN
      have HBN := Lib.hid hBN
      clear hN hBN hF hB
      go_wp2_with fail
      refine (hHd _).mono ?_
      rintro e1 w2 ⟨hev, rfl⟩
      rw [hrh] at hev
      subst hev
      clear hrh hHd
      go_wp2_with fail
      generalize ((((((((((((w0).setCell ⟨w.heap.size, 0, none⟩ (.int .i64 0)).setCell ⟨w.heap.size, 1, none⟩ (.int .i64 0)).setCell ⟨w.heap.size, 2, none⟩ (.int .i64 0)).setCell ⟨w.heap.size, 3, none⟩ (.int .i64 0)).setCell ⟨w.heap.size, 4, none⟩ (.string ⟨#[]⟩)).setCell ⟨w.heap.size, 5, none⟩ (.string ⟨#[]⟩)).setCell ⟨w.heap.size, 6, none⟩ (.string ⟨#[]⟩)).setCell ⟨w.heap.size, 7, none⟩ (.slice none 0 0)).setCell ⟨w.heap.size, 8, none⟩ (.slice none 0 0)).setCell ⟨w.heap.size, 9, none⟩ (.slice none 0 0)).setCell ⟨w.heap.size, 10, none⟩ (.bool false)).setCell ⟨w.heap.size, 11, none⟩ (.string ⟨#[]⟩) = wf at *
      obtain ⟨r0, r1, r2, r3, r4, r5, r6, r7, r8, r9, r10, r11⟩ := HN.out.cells12
      refine bodyPost_ret (v := .tuple #[.agg zeroNode.toArray, .int .i64 he, .int .i64 5]) ?_ rfl ?_
      · simp [results, Tryd.results59, go_sem, r0, r1, r2, r3, r4, r5, r6, r7, r8, r9, r10, r11]
      · exact ⟨rfl, HBN.out⟩
    | false =>
      have hrh : rhead l p = .tuple #[.int .i64 (rowTo l (p + 1)), .int .i64 (hdM l (p + 1)).1, .int .u8 (hdM l (p + 1)).2.1, .string ⟨(hdTrail l (p + 1)).toArray⟩, .bool (hdHas l (p + 1)), .int .i64 (-1)] := by
        unfold rhead; rw [if_neg (by rw [hbad]; decide)]
      have hok := fun r => blocOf_ok (n := n) (r := r) hbad
      have htoo := fun q => blocOf_too (n := n) (q := q) hbad
      rw [hRR] at hok htoo
      rw [hfo2] at hok
      have hMi := hdM_is (l := l) (p := p + 1) (by omega)
      obtain ⟨-, -, hd9, hdk, -⟩ := hMi
      have ht1 := rowTo_le (l := l) (p := p + 1) (by omega)
      have hstb := st_begin (l := l) (p := p + 1)
      clear hRR hfo2 hbad
      go_wp2_with fail
      refine (hHd _).mono ?_
      rintro e1 w2 ⟨hev, rfl⟩
      rw [hrh] at hev
      subst hev
      clear hrh hHd
      generalize (hdM l (p + 1)).1 = hn at *
      generalize (hdM l (p + 1)).2.1 = hk at *
      generalize hdHas l (p + 1) = has at *
      generalize hdTrail l (p + 1) = tr at *
      generalize rowTo l (p + 1) = t at *
      have HOK := Lib.hid hok
      have HTOO := Lib.hid htoo
      have HSB := Lib.hid hstb
      clear hok htoo hstb
      go_upto_region 7 with fail
      have hR0 : RW w (w0.alloc (.cells (node0 p false has tr).toArray 52)) (node0 p false has tr) := by
        have h1 := Full.new w0 52 (node0 p false has tr)
        rw [hS] at h1
        exact ⟨hB.alloc (by omega) _, hF.alloc _, h1, by simp; omega⟩
      change RW w (w0.alloc (.cells #[.int .i64 1, .int .i64 4, .int .i64 p, .int .i64 0, .string ⟨#[]⟩, .string ⟨#[]⟩, .string ⟨#[]⟩, .slice none 0 0, .slice none 0 0, .slice none 0 0, .bool has, .string ⟨tr.toArray⟩] 52)) _ at hR0
      generalize w0.alloc (.cells #[.int .i64 1, .int .i64 4, .int .i64 p, .int .i64 0, .string ⟨#[]⟩, .string ⟨#[]⟩, .string ⟨#[]⟩, .slice none 0 0, .slice none 0 0, .slice none 0 0, .bool has, .string ⟨tr.toArray⟩] 52) = w1 at *
      clear hF hB hS
      go_cut [77] from 74 to 77 (fun s wx => s = .bool fo ∧ w1 = wx)
      case first =>
        cases fo with
        | true =>
          have h62 := of_decide_eq_true hfo.symm
          have g1 : ((byt l p : Int) == 62) = true := by rw [h62]; rfl
          have HH := Lib.hid h62
          clear h62
          go_wp2_with fail
          go_meet
          exact ⟨by rw [decide_eq_true HH.out], rfl⟩
        | false =>
          have h62 := of_decide_eq_false hfo.symm
          have g1 : ((byt l p : Int) == 62) = false := by rw [beq_eq_false_iff_ne]; omega
          have HH := Lib.hid h62
          clear h62
          go_wp2_with fail
          go_meet
          exact ⟨by rw [decide_eq_false HH.out], rfl⟩
      case rest =>
        obtain ⟨rfl, rfl⟩ := hcut
        clear hfo hb
        obtain ⟨st, hst⟩ : ∃ st : Nat, (if fo then 5 else 4) = st := ⟨_, rfl⟩
        have gst : ((st : Int) == 5) = fo := by rw [← hst]; cases fo <;> rfl
        have HST := Lib.hid hst
        go_upto_if 77 with fail
        go_cut [] from 78 to 78 (fun wx => RW w wx (nodeCells 1 st p 0 [] [] [] (.slice none 0 0) (.slice none 0 0) (.slice none 0 0) has tr))
        case first =>
          clear gst
          cases fo with
          | true =>
            obtain rfl : st = 5 := hst.symm
            have y1 := hR0.node.cell 1
            have x1' := hR0.node.free 1
            simp only [List.getElem?_cons_zero, List.getElem?_cons_succ] at y1
            have hR1 : RW w (w1.setCell ⟨w.heap.size + 1, 1, none⟩ (.int .i64 5)) (node0 p true has tr) :=
              ⟨hR0.below.setCell (p := ⟨w.heap.size + 1, 1, none⟩) (Nat.le_succ _) _, hR0.res.put_far (p := ⟨w.heap.size + 1, 1, none⟩) (by simp) _, hR0.node.put 1 _, by simpa [World.setCell] using hR0.size⟩
            have HR1 := Lib.hid hR1
            clear hR1 hR0 hst HST
            go_wp2_with fail
            go_meet
            exact HR1.out
          | false =>
            obtain rfl : st = 4 := hst.symm
            have HR1 := Lib.hid hR0
            clear hR0 hst HST
            go_wp2_with fail
            go_meet
            exact HR1.out
        case rest =>
          have hR := hcut
          clear hcut hR0 hst
          have HR := Lib.hid hR
          clear hR
          obtain ⟨b, hbb⟩ : ∃ b, min (t + 1) l.length = b := ⟨_, rfl⟩
          have hcb : min ((t : Int) + 1) (l.length : Int) = (b : Int) := by omega
          have hbl : b ≤ l.length := by omega
          rw [hbb] at HOK HTOO HSB
          obtain ⟨wd, hwd⟩ : ∃ wd, hn + (min (max n 0) (l.length + 1)).toNat = wd := ⟨_, rfl⟩
          have hcw : (hn : Int) + min (max n 0) ((l.length : Int) + 1) = (wd : Int) := by omega
          have hwl : wd ≤ 9 + l.length + 1 := by omega
          clear hbb
          go_upto_region 11 with fail
          clear hcb hcw
          have hfr := front_is l _ b (Nat.le_refl _) hbl HSB.out
          obtain ⟨W, hWW⟩ : ∃ W, refW l b hn n = W := ⟨_, rfl⟩
          have hWl : W ≤ 10 + l.length + 1 := by
            have h1 := in_le hfr.2.1
            have h2 := rowTo_le hfr.2.1
            rw [← hWW]
            unfold refW
            split
            · split <;> omega
            · omega
          obtain ⟨z, hz⟩ : ∃ z, ((hn : Int) == 0) = z := ⟨_, rfl⟩
          have HZ := Lib.hid hz
          clear hz
          go_cut [93] from 92 to 93 (fun s wx => s = .bool z ∧ wc = wx)
          case first =>
            go_wp2_with fail
            go_meet
            exact ⟨by rw [HZ.out], rfl⟩
          case rest =>
            obtain ⟨rfl, rfl⟩ := hcut
            go_upto_if 93 with fail
            go_cut [17, 18, 19, 20, 21] from 93 to 133 (fun s _ _ _ _ wx => s = .int .i64 W ∧ wc = wx)
            case first =>
              clear HOK HTOO HR hdk
              cases z with
              | true =>
                have h0 : hn = 0 := by have := HZ.out; rw [beq_iff_eq] at this; omega
                have hW2 : W = if frontM l b < l.length ∧ markB l (frontM l b) = false ∧ n < (inM l (frontM l b) : Int) then inM l (frontM l b) else l.length + 1 := by
                  rw [← hWW]; unfold refW; rw [if_pos h0]
                have HW2 := Lib.hid hW2
                clear h0 hW2 hWW hwd hfr
                obtain ⟨F, hF⟩ : ∃ F, frontM l b = F := ⟨_, rfl⟩
                rw [hF] at HW2
                have HF := Lib.hid hF
                clear hF
                go_wp2_with fail
                go_loopg [17, 18] (l.length + 1 - b) (fun gk s17 s wr => ∃ q : Nat, q ≤ l.length + 1 ∧ s17 = .int .i64 ((l.length : Int) + 1) ∧ s = .int .i64 q ∧ gk = l.length + 1 - q ∧ wc = wr ∧ Hid (frontM l (min q l.length) = F) ∧ Hid (St l (min q l.length)))
                case atStart => exact ⟨b, by omega, rfl, rfl, rfl, rfl, Lib.hid (by rw [show min b l.length = b by omega]; exact HF.out), Lib.hid (by rw [show min b l.length = b by omega]; exact HSB.out)⟩
                case round =>
                  obtain ⟨q, hq, rfl, rfl, hgk, rfl, HFq, HSq⟩ := hrel
                  by_cases hql : q < l.length
                  · have hm : min q l.length = q := by omega
                    rw [hm] at HFq HSq
                    have hsq := HSq.out hql
                    have hRw := fun w => rrow_n l q w (by omega) (by omega)
                    have hBk := fun w => rblanks_c l q w (by omega) (by omega)
                    have hKd := fun w => rkind_n l q w (by omega) (by omega)
                    have hIn := fun w => rin_n l q w (by omega) (by omega)
                    have ht1 := rowTo_le (l := l) (p := q) (by omega)
                    have ht2 := rowTo_ge l q
                    rw [hsq] at hRw hBk
                    cases hbk : blankB l q with
                    | true =>
                      rw [hbk] at hBk
                      have HFn : Hid (frontM l (min (rowTo l q + 1) l.length) = F) := Lib.hid (by rw [← HFq.out, front_go hql hbk]; rfl)
                      have HSn : Hid (St l (min (rowTo l q + 1) l.length)) := Lib.hid (st_next l q)
                      generalize rowTo l q = t2 at *
                      clear hbk HFq HSq hm hsq HW2
                      go_wp2_with fail
                      refine (hRw _).mono ?_
                      rintro e1 w3 ⟨rfl, rfl⟩
                      go_wp2_with fail
                      refine (hBk _).mono ?_
                      rintro e1 w3 ⟨rfl, rfl⟩
                      go_wp2_with fail
                      go_roundg (l.length + 1 - (t2 + 1))
                      case measure => omega
                      case rel => exact ⟨t2 + 1, by omega, rfl, by go_num, rfl, rfl, HFn, HSn⟩
                    | false =>
                      rw [hbk] at hBk
                      have hFe : F = q := by rw [← HFq.out]; exact front_stop (by rw [hbk]; simp)
                      have hm2 : markB l q = decide (kindM l q = 3 ∨ kindM l q = 4) := rfl
                      have hW3 := HW2.out
                      rw [hFe, hm2] at hW3
                      generalize rowTo l q = t2 at *
                      generalize kindM l q = kd at *
                      generalize inM l q = i at *
                      clear hbk HFq HSq hm hsq HW2 hFe hm2
                      by_cases hni : n < (i : Int)
                      · by_cases h3 : kd = 3
                        · have g3 : ((kd : Int) != 3) = false := by rw [h3]; rfl
                          obtain rfl : W = l.length + 1 := by rw [hW3, if_neg (by simp [h3])]
                          clear h3 hW3
                          go_wp2_with fail
                          refine (hRw _).mono ?_
                          rintro e1 w3 ⟨rfl, rfl⟩
                          go_wp2_with fail
                          refine (hBk _).mono ?_
                          rintro e1 w3 ⟨rfl, rfl⟩
                          go_wp2_with fail
                          refine (hKd _).mono ?_
                          rintro e1 w3 ⟨rfl, rfl⟩
                          go_wp2_with fail
                          refine (hIn _).mono ?_
                          rintro e1 w3 ⟨rfl, rfl⟩
                          go_wp2_with fail
                          go_meet
                          exact ⟨by go_num, rfl⟩
                        · have g3 : ((kd : Int) != 3) = true := by simp; omega
                          by_cases h4 : kd = 4
                          · have g4 : ((kd : Int) != 4) = false := by rw [h4]; rfl
                            obtain rfl : W = l.length + 1 := by rw [hW3, if_neg (by simp [h4])]
                            clear h3 h4 hW3
                            go_wp2_with fail
                            refine (hRw _).mono ?_
                            rintro e1 w3 ⟨rfl, rfl⟩
                            go_wp2_with fail
                            refine (hBk _).mono ?_
                            rintro e1 w3 ⟨rfl, rfl⟩
                            go_wp2_with fail
                            refine (hKd _).mono ?_
                            rintro e1 w3 ⟨rfl, rfl⟩
                            go_wp2_with fail
                            refine (hIn _).mono ?_
                            rintro e1 w3 ⟨rfl, rfl⟩
                            go_wp2_with fail
                            go_meet
                            exact ⟨by go_num, rfl⟩
                          · have g4 : ((kd : Int) != 4) = true := by simp; omega
                            obtain rfl : W = i := by rw [hW3, if_pos ⟨hql, by simp [h3, h4], hni⟩]
                            clear h3 h4 hW3
                            go_wp2_with fail
                            refine (hRw _).mono ?_
                            rintro e1 w3 ⟨rfl, rfl⟩
                            go_wp2_with fail
                            refine (hBk _).mono ?_
                            rintro e1 w3 ⟨rfl, rfl⟩
                            go_wp2_with fail
                            refine (hKd _).mono ?_
                            rintro e1 w3 ⟨rfl, rfl⟩
                            go_wp2_with fail
                            refine (hIn _).mono ?_
                            rintro e1 w3 ⟨rfl, rfl⟩
                            go_wp2_with fail
                            refine (hIn _).mono ?_
                            rintro e1 w3 ⟨rfl, rfl⟩
                            go_wp2_with fail
                            go_meet
                            exact ⟨rfl, rfl⟩
                      · have gni : decide (n < (i : Int)) = false := decide_eq_false hni
                        obtain rfl : W = l.length + 1 := by rw [hW3, if_neg (fun x => hni x.2.2)]
                        clear hW3 hni
                        go_wp2_with fail
                        refine (hRw _).mono ?_
                        rintro e1 w3 ⟨rfl, rfl⟩
                        go_wp2_with fail
                        refine (hBk _).mono ?_
                        rintro e1 w3 ⟨rfl, rfl⟩
                        go_wp2_with fail
                        refine (hKd _).mono ?_
                        rintro e1 w3 ⟨rfl, rfl⟩
                        go_wp2_with fail
                        refine (hIn _).mono ?_
                        rintro e1 w3 ⟨rfl, rfl⟩
                        go_wp2_with fail
                        go_meet
                        exact ⟨by go_num, rfl⟩
                  · have hm : min q l.length = l.length := by omega
                    have hFe : F = l.length := by rw [← HFq.out, hm]; exact front_stop (by omega)
                    obtain rfl : W = l.length + 1 := by rw [HW2.out, if_neg (by omega)]
                    clear HW2 HFq HSq hm hFe
                    go_wp2_with fail
                    go_meet
                    exact ⟨by go_num, rfl⟩
              | false =>
                have h0 : ¬ hn = 0 := by have := HZ.out; rw [beq_eq_false_iff_ne] at this; omega
                obtain rfl : W = wd := by rw [← hWW, ← hwd]; unfold refW; rw [if_neg h0]
                clear h0 hWW hwd hfr
                go_wp2_with fail
                go_meet
                exact ⟨rfl, rfl⟩
            case rest =>
              obtain ⟨rfl, rfl⟩ := hcut
              obtain ⟨W1, hW1⟩ : ∃ W1, W1 = wc := ⟨_, rfl⟩
              subst hW1
              clear hfr hwd HZ
              obtain ⟨T, hT⟩ : ∃ T, bodyToo l b hn n = T := ⟨_, rfl⟩
              obtain ⟨R, hR⟩ : ∃ R, bodyM l b hn n = R := ⟨_, rfl⟩
              have hrs := rs_start (d := hn) (n := n) hbl HSB.out
              rw [hT, hR, hWW] at hrs
              have HOK2 := Lib.hid (fun r => HOK.out r)
              have HTQ : Hid (∀ q : Nat, T = some q → (x1, x2, x3) = ((BN.zero, (q : Int), 5) : Bl)) := Lib.hid (fun q h => HTOO.out q (hT.trans h))
              have HOKR : Hid (T = none → (x1, x2, x3) = ((⟨1, if fo then 5 else 4, p, has, tr, toldM (R.1.take R.2.1) R.2.2.1 fo hk⟩, (R.2.2.2 : Int), 0) : Bl)) := Lib.hid (fun h => HOK.out R (hT.trans h) hR)
              have HRS := Lib.hid hrs
              have HSZ : Hid (sumL R.1 ≤ l.length + 1) := Lib.hid (by
                rw [← hR]
                exact (go_size l _ _ b [] 0 0 (Nat.le_refl _) hbl HSB.out (Nat.le_refl _) (Nat.zero_le _) (Nat.zero_le _) (fun _ => Nat.zero_le _)).1)
              clear HOK HTOO HOK2 hT hR hWW hrs HSB
              obtain ⟨i0, hi, hz0, hz1, hz2⟩ := info_parts blStr
              go_upto_block 2 with fail
              go_cut [7, 8, 22, 23, 24, 25, 26, 27, 28, 29, 30, 31] from 136 to 210 (fun _ _ v s23 s24 s25 _ _ _ _ _ _ wx => ∃ (pp full behind E : Nat) (acc : List (List UInt8)), wx.ownsRow W1.heap.size 9 1 v acc.length (strs acc) ∧ s23 = .int .i64 pp ∧ s24 = .int .i64 ((full : Int) - 1) ∧ s25 = .int .i64 behind ∧ min pp l.length = E ∧ pp ≤ l.length + 1 ∧ behind ≤ E ∧ full ≤ acc.length ∧ acc.length ≤ l.length ∧ Below W1.heap.size W1 wx ∧ Hid (T = none ∧ R = (acc, full, cntN l behind (E - behind), E)))
              case first =>
                clear HOKR hdk
                go_wp2_with fail
                go_loopg [22, 23, 24, 25, 26] (l.length + 1 - b) (fun gk v s23 s24 s25 s26 wr => ∃ (pp full behind : Nat) (first : Bool) (acc : List (List UInt8)), wr.ownsRow W1.heap.size 9 1 v acc.length (strs acc) ∧ s23 = .int .i64 pp ∧ s24 = .int .i64 ((full : Int) - 1) ∧ s25 = .int .i64 behind ∧ s26 = .bool first ∧ gk = l.length + 1 - pp ∧ Below W1.heap.size W1 wr ∧ Hid (RS l W hn T R pp acc full behind first))
                case atStart => exact ⟨b, 0, b, true, [], own_nil _ _ _, rfl, rfl, rfl, rfl, rfl, Below.refl _ _, HRS⟩
                case round =>
                  clear HRS
                  obtain ⟨pp, full, behind, first, acc, hown, rfl, rfl, rfl, rfl, hgk, hbw, HS⟩ := hrel
                  have hsz := hbw.size
                  have hple := HS.out.le
                  have hal := HS.out.accl
                  have hfl := HS.out.fulle
                  have hbe := HS.out.beh
                  have hc3 : acc.length + 1 ≤ maxLen := by unfold maxLen; omega
                  have hc4 : (acc.length + 1) * 16 ≤ 140737488355328 := by omega
                  by_cases hpl : pp < l.length
                  · have hm : min pp l.length = pp := by omega
                    have hsq : rowFrom l pp = pp := by have := HS.out.st; rw [hm] at this; exact this hpl
                    have hRw := fun w => rrow_n l pp w (by omega) (by omega)
                    have hBk := fun w => rblanks_c l pp w (by omega) (by omega)
                    have hKd := fun w => rkind_n l pp w (by omega) (by omega)
                    have hIn := fun w => rin_n l pp w (by omega) (by omega)
                    have ht1' := rowTo_le (l := l) (p := pp) (by omega)
                    have ht2 := rowTo_ge l pp
                    have hil := in_le (l := l) (p := pp) (by omega)
                    rw [hsq] at hRw hBk hil
                    have hokd : okB l W pp = (!decide (kindM l pp = 3 ∨ kindM l pp = 4) && (blankB l pp || decide (W ≤ inM l pp))) := rfl
                    have hstop := fun hb ho => HS.out.stop hpl hb ho
                    have hbadq := fun hb hf hd hw => HS.out.bad hpl hb hf hd hw
                    have hnext := fun ho hb => HS.out.next hpl ho hb
                    have htx := text_ref (W := W) hpl hsq
                    have hbm := fun hb => blank_mark (l := l) (p := pp) hpl hb
                    have hbm2 : markB l pp = decide (kindM l pp = 3 ∨ kindM l pp = 4) := rfl
                    rw [hbm2] at hbm
                    clear hsq hm hbm2
                    generalize blankB l pp = bk at *
                    generalize kindM l pp = kd at *
                    generalize inM l pp = i at *
                    generalize rowTo l pp = t2 at *
                    generalize okB l W pp = ok at *
                    generalize textB l W pp = tx at *
                    have HOKD := Lib.hid hokd
                    have HSTOP := Lib.hid hstop
                    have HBAD := Lib.hid hbadq
                    have HNEXT := Lib.hid hnext
                    have HTX := Lib.hid htx
                    have HBM := Lib.hid hbm
                    clear hokd hstop hbadq hnext htx hbm HS
                    go_wp2_with fail
                    refine (hRw _).mono ?_
                    rintro e1 w3 ⟨rfl, rfl⟩
                    go_wp2_with fail
                    refine (hKd _).mono ?_
                    rintro e1 w3 ⟨rfl, rfl⟩
                    go_wp2_with fail
                    refine (hIn _).mono ?_
                    rintro e1 w3 ⟨rfl, rfl⟩
                    go_wp2_with fail
                    refine (hBk _).mono ?_
                    rintro e1 w3 ⟨rfl, rfl⟩
                    clear hRw hKd hIn hBk
                    go_upto_if 156 with fail
                    go_cut [26] from 156 to 187 (fun s26 wx => s26 = .bool (if bk then first else false) ∧ wr = wx ∧ Hid (OkR ok bk first hn W i))
                    case first =>
                      clear HNEXT HTX
                      cases bk with
                      | false =>
                        go_upto_region 28 with fail
                        go_cut [167] from 157 to 167 (fun s wx => s = .bool (!ok) ∧ wr = wx)
                        case first =>
                          have ho := HOKD.out
                          clear HOKD HSTOP HBAD HBM HTQ
                          by_cases g1 : i < W
                          · obtain rfl : ok = false := by rw [ho, decide_eq_false (show ¬ W ≤ i by omega)]; simp
                            clear ho
                            go_wp2_with fail
                            go_meet
                            exact ⟨rfl, rfl⟩
                          · have gd : decide ((i : Int) < (W : Int)) = false := decide_eq_false (by omega)
                            by_cases g3 : kd = 3
                            · have k3 : ((kd : Int) == 3) = true := by rw [g3]; rfl
                              obtain rfl : ok = false := by rw [ho, decide_eq_true (show kd = 3 ∨ kd = 4 from .inl g3)]; rfl
                              clear ho g3
                              go_wp2_with fail
                              go_meet
                              exact ⟨rfl, rfl⟩
                            · have k3 : ((kd : Int) == 3) = false := by rw [beq_eq_false_iff_ne]; omega
                              have hok2 : ok = !decide (kd = 4) := by
                                rw [ho, decide_eq_true (show W ≤ i by omega)]
                                simp [g3]
                              have hk4 : ((kd : Int) == 4) = decide (kd = 4) := by rw [Bool.eq_iff_iff, beq_iff_eq, decide_eq_true_iff]; omega
                              clear ho
                              subst hok2
                              have HK := Lib.hid hk4
                              clear hk4 g3
                              go_wp2_with fail
                              go_meet
                              exact ⟨by rw [Bool.not_not, ← HK.out], rfl⟩
                        case rest =>
                          obtain ⟨rfl, rfl⟩ := hcut
                          clear HOKD HBM HBAD HTQ
                          cases ok with
                          | false =>
                            obtain ⟨h1, h2⟩ := HSTOP.out rfl rfl
                            have HX := Lib.hid (And.intro h1 h2)
                            clear h1 h2 HSTOP
                            go_wp2_with fail
                            go_meet
                            exact ⟨pp, full, behind, pp, acc, hown, rfl, rfl, rfl, by omega, hple, by omega, hfl, by omega, hbw, HX⟩
                          | true =>
                            clear HSTOP
                            go_wp2_with fail
                            go_meet
                            exact ⟨rfl, rfl, Lib.hid (okR_of rfl (fun h => by cases h))⟩
                      | true =>
                        have hbm := HBM.out rfl
                        have ho := HOKD.out
                        rw [hbm] at ho
                        obtain rfl : ok = true := by rw [ho]; rfl
                        clear ho HOKD HBM HSTOP hbm
                        go_upto_region 30 with fail
                        obtain ⟨bad, hbad⟩ : ∃ bad, (first && (decide (hn = 0) && decide (W < i))) = bad := ⟨_, rfl⟩
                        go_cut [183] from 168 to 183 (fun s wx => s = .bool bad ∧ wr = wx)
                        case first =>
                          clear HBAD HTQ
                          cases first with
                          | false =>
                            obtain rfl : bad = false := by rw [← hbad]; rfl
                            clear hbad
                            go_wp2_with fail
                            go_meet
                            exact ⟨rfl, rfl⟩
                          | true =>
                            by_cases h0 : hn = 0
                            · have g0 : ((hn : Int) == 0) = true := by rw [h0]; rfl
                              have hb2 : bad = decide (W < i) := by rw [← hbad, decide_eq_true h0]; rfl
                              clear hbad h0
                              by_cases hwi : W < i
                              · have hwl : W ≤ l.length := by omega
                                obtain rfl : bad = true := by rw [hb2, decide_eq_true hwi]
                                clear hb2
                                go_wp2_with fail
                                go_meet
                                exact ⟨by simp <;> omega, rfl⟩
                              · obtain rfl : bad = false := by rw [hb2, decide_eq_false hwi]
                                clear hb2
                                by_cases hwl : W ≤ l.length
                                · go_wp2_with fail
                                  go_meet
                                  exact ⟨by simp <;> omega, rfl⟩
                                · have gw : decide ((W : Int) ≤ (l.length : Int)) = false := decide_eq_false (by omega)
                                  go_wp2_with fail
                                  go_meet
                                  exact ⟨rfl, rfl⟩
                            · have g0 : ((hn : Int) == 0) = false := by rw [beq_eq_false_iff_ne]; omega
                              obtain rfl : bad = false := by rw [← hbad, decide_eq_false h0]; rfl
                              clear hbad h0
                              go_wp2_with fail
                              go_meet
                              exact ⟨rfl, rfl⟩
                        case rest =>
                          obtain ⟨rfl, rfl⟩ := hcut
                          cases bad with
                          | true =>
                            have hff : first = true := by
                              cases first with
                              | true => rfl
                              | false => cases hbad
                            rw [hff, Bool.true_and, Bool.and_eq_true_iff] at hbad
                            have hd0 := of_decide_eq_true hbad.1
                            have hwi := of_decide_eq_true hbad.2
                            have hq := HBAD.out rfl hff hd0 hwi
                            have hres := HTQ.out _ hq
                            obtain ⟨rfl, rfl, rfl⟩ : x1 = BN.zero ∧ x2 = ((pp + W : Nat) : Int) ∧ x3 = 5 := by
                              injection hres with h1 h2
                              injection h2 with h2 h3
                              exact ⟨h1, h2, h3⟩
                            have hRr := HR.out.below' hbw
                            have hRb := hRr.below
                            have hRf := hRr.res
                            clear hRr hres hq hbad HBAD HTQ hd0 hwi hff
                            obtain ⟨d0, d1, d2, d3, d4, d5, d6, d7, d8, d9, d10, d11⟩ := hRf.cells12
                            obtain ⟨f0, f1, f2, f3, f4, f5, f6, f7, f8, f9, f10, f11⟩ := hRf.free12
                            have hN := hRf.store12 (.int .i64 0) (.int .i64 0) (.int .i64 0) (.int .i64 0) (.string ⟨#[]⟩) (.string ⟨#[]⟩) (.string ⟨#[]⟩) (.slice none 0 0) (.slice none 0 0) (.slice none 0 0) (.bool false) (.string ⟨#[]⟩)
                            have hBN := below12 hRb (Nat.le_refl _) (.int .i64 0) (.int .i64 0) (.int .i64 0) (.int .i64 0) (.string ⟨#[]⟩) (.string ⟨#[]⟩) (.string ⟨#[]⟩) (.slice none 0 0) (.slice none 0 0) (.slice none 0 0) (.bool false) (.string ⟨#[]⟩)
                            have HN := Lib.hid hN
                            have HBN := Lib.hid hBN
                            clear hN hBN hRf hRb
                            go_wp2_with fail
                            generalize ((((((((((((wr).setCell ⟨w.heap.size, 0, none⟩ (.int .i64 0)).setCell ⟨w.heap.size, 1, none⟩ (.int .i64 0)).setCell ⟨w.heap.size, 2, none⟩ (.int .i64 0)).setCell ⟨w.heap.size, 3, none⟩ (.int .i64 0)).setCell ⟨w.heap.size, 4, none⟩ (.string ⟨#[]⟩)).setCell ⟨w.heap.size, 5, none⟩ (.string ⟨#[]⟩)).setCell ⟨w.heap.size, 6, none⟩ (.string ⟨#[]⟩)).setCell ⟨w.heap.size, 7, none⟩ (.slice none 0 0)).setCell ⟨w.heap.size, 8, none⟩ (.slice none 0 0)).setCell ⟨w.heap.size, 9, none⟩ (.slice none 0 0)).setCell ⟨w.heap.size, 10, none⟩ (.bool false)).setCell ⟨w.heap.size, 11, none⟩ (.string ⟨#[]⟩) = wf at *
                            obtain ⟨r0, r1, r2, r3, r4, r5, r6, r7, r8, r9, r10, r11⟩ := HN.out.cells12
                            refine bodyPost_ret (v := .tuple #[.agg zeroNode.toArray, .int .i64 ((pp : Int) + W), .int .i64 5]) ?_ rfl ?_
                            · simp [results, Tryd.results59, go_sem, r0, r1, r2, r3, r4, r5, r6, r7, r8, r9, r10, r11]
                            · exact ⟨rfl, HBN.out⟩
                          | false =>
                            have HB := Lib.hid hbad
                            clear hbad HBAD HTQ
                            go_wp2_with fail
                            go_meet
                            exact ⟨rfl, rfl, Lib.hid (okR_of rfl (fun _ hf hd hw => by
                              have := HB.out
                              rw [hf, decide_eq_true hd, decide_eq_true hw] at this
                              cases this))⟩
                    case rest =>
                      obtain ⟨rfl, rfl, HOKB⟩ := hcut
                      have hnx := HNEXT.out HOKB.out.1 HOKB.out.2
                      have HNX := Lib.hid hnx
                      clear hnx HNEXT HOKB HBM HBAD HSTOP HOKD HTQ
                      generalize (if bk = true then first else false) = first2 at *
                      generalize hfu : (if tx = [] then full else acc.length + 1) = fu at *
                      generalize hbh : (if tx = [] then behind else t2) = bh at *
                      have HFU := Lib.hid hfu
                      have HBH := Lib.hid hbh
                      clear hfu hbh
                      go_upto_region 33 with fail
                      go_cut [192] from 188 to 192 (fun s wx => s = .bool (decide (W < t2 - pp)) ∧ wr = wx)
                      case first =>
                        clear HNX HFU HBH HTX
                        go_wp2_with fail
                        go_meet
                        exact ⟨by simp <;> omega, rfl⟩
                      case rest =>
                        obtain ⟨rfl, rfl⟩ := hcut
                        obtain ⟨z2, hz2'⟩ : ∃ z2, decide (W < t2 - pp) = z2 := ⟨_, rfl⟩
                        rw [hz2']
                        have HZ2 := Lib.hid hz2'
                        clear hz2'
                        go_upto_if 192 with fail
                        go_cut [31] from 193 to 198 (fun s wx => s = .string ⟨tx.toArray⟩ ∧ wr = wx)
                        case first =>
                          have htx := HTX.out
                          clear HNX HFU HBH HTX
                          cases z2 with
                          | true =>
                            have hlt2 := of_decide_eq_true HZ2.out
                            rw [if_pos hlt2] at htx
                            have ha1 : ((pp : Int) + (W : Int)).toNat = pp + W := by omega
                            have ha2 : (0 : Int) ≤ (pp : Int) + W := by clear ha1; omega
                            have ha3 : (pp : Int) + W ≤ (t2 : Int) := by clear ha1 ha2; omega
                            have HT2 := Lib.hid htx
                            clear htx
                            go_wp2_with fail
                            go_meet
                            exact ⟨by rw [HT2.out], rfl⟩
                          | false =>
                            have hlt2 := of_decide_eq_false HZ2.out
                            rw [if_neg hlt2] at htx
                            subst htx
                            go_wp2_with fail
                            go_meet
                            exact ⟨rfl, rfl⟩
                        case rest =>
                          obtain ⟨rfl, rfl⟩ := hcut
                          clear HTX HZ2
                          go_upto_region 35 with fail
                          go_cut [22] from 199 to 202 (fun v wx => wx.ownsRow W1.heap.size 9 1 v (acc.length + 1) (strs (acc ++ [tx])) ∧ Below W1.heap.size W1 wx)
                          case first =>
                            go_wp2_with (at_builtin; go_loud (refine wpList_push rfl _ _ 45 rfl W1.heap.size 9 i0 (.string ⟨#[]⟩) 16 Tryd.underlying45 hi hz0 hz1 hz2 rfl u22 _ _ _ rfl hown rfl rfl hc3 hc4 hbw hsz ?_); intro v1 w2 hown1 hbw1)
                            go_meet
                            exact ⟨by rw [strs_snoc']; exact hown1, hbw1⟩
                          case rest =>
                            obtain ⟨hown2, hbw2⟩ := hcut
                            clear hown hbw hsz
                            obtain ⟨w4, hw4⟩ : ∃ w4, w4 = wc := ⟨_, rfl⟩
                            subst hw4
                            obtain ⟨ao, cp, hsh⟩ := own_shape hown2
                            subst hsh
                            have HO := Lib.hid hown2
                            clear hown2
                            obtain ⟨ne, hne⟩ : ∃ ne, (!tx.isEmpty) = ne := ⟨_, rfl⟩
                            have HNE := Lib.hid hne
                            clear hne
                            go_upto_region 36 with fail
                            go_cut [204] from 203 to 204 (fun s wx => s = .bool ne ∧ w4 = wx)
                            case first =>
                              go_wp2_with fail
                              go_meet
                              exact ⟨by rw [← HNE.out], rfl⟩
                            case rest =>
                              obtain ⟨rfl, rfl⟩ := hcut
                              go_upto_if 204 with fail
                              go_cut [24, 25] from 205 to 208 (fun s24 s25 wx => s24 = .int .i64 ((fu : Int) - 1) ∧ s25 = .int .i64 bh ∧ w4 = wx)
                              case first =>
                                have h1 := HFU.out
                                have h2 := HBH.out
                                have h3 := HNE.out
                                clear HFU HBH HNE HNX
                                cases ne with
                                | false =>
                                  have hx : tx = [] := by cases tx with | nil => rfl | cons _ _ => cases h3
                                  rw [if_pos hx] at h1 h2
                                  subst h1 h2
                                  clear hx h3
                                  go_wp2_with fail
                                  go_meet
                                  exact ⟨rfl, rfl, rfl⟩
                                | true =>
                                  have hx : tx ≠ [] := fun e => by rw [e] at h3; cases h3
                                  rw [if_neg hx] at h1 h2
                                  subst h1 h2
                                  clear hx h3
                                  go_wp2_with fail
                                  go_meet
                                  exact ⟨by go_num, rfl, rfl⟩
                              case rest =>
                                obtain ⟨rfl, rfl, rfl⟩ := hcut
                                clear HFU HBH HNE
                                go_wp2_with fail
                                go_roundg (l.length + 1 - (t2 + 1))
                                case measure => omega
                                case rel => exact ⟨t2 + 1, fu, bh, first2, acc ++ [tx], by rw [List.length_append, List.length_singleton]; exact HO.out, by go_num, rfl, rfl, rfl, rfl, hbw2, HNX⟩
                  · obtain ⟨h1, h2⟩ := HS.out.done (by omega)
                    have HX := Lib.hid (And.intro h1 h2)
                    clear h1 h2 HS
                    go_wp2_with fail
                    go_meet
                    exact ⟨pp, full, behind, l.length, acc, hown, rfl, rfl, rfl, by omega, hple, by omega, hfl, by omega, hbw, HX⟩
              case rest =>
                obtain ⟨pp, full, behind, E, acc, hown, rfl, rfl, rfl, hE, hple, hbe, hfl, hal, hbw, HX⟩ := hcut
                obtain ⟨W2, hW2'⟩ : ∃ W2, W2 = wc := ⟨_, rfl⟩
                subst hW2'
                clear HRS
                have hcE : min (pp : Int) (l.length : Int) = (E : Int) := by omega
                have hEl : E ≤ l.length := by omega
                have hRW := HR.out.below' hbw
                have hSl := Slc.own hown
                obtain ⟨ao, cp, hsh⟩ := own_shape hown
                subst hsh
                have hcp : acc.length ≤ cp := by
                  obtain ⟨a', c', e, hc', _⟩ := hSl
                  injection e with _ _ e3
                  rw [e3]; exact hc'
                have hSt := hSl.take hfl
                have HRW := Lib.hid hRW
                have HSL := Lib.hid hSt
                clear hown hSl hSt hRW HR hbw hi hz0 hz1 hz2
                obtain ⟨fe, hfe⟩ : ∃ fe, cntN l behind (E - behind) = fe := ⟨_, rfl⟩
                rw [hfe] at HX
                have hfel : fe ≤ E := by rw [← hfe]; exact Nat.le_trans (cntN_le l _ _) (by omega)
                go_upto_region 40 with fail
                go_cut [32] from 215 to 214 (fun s32 wx => s32 = .int .i64 0 ∧ W2 = wx)
                case first =>
                  go_wp2_with fail
                  go_meet
                  exact ⟨rfl, rfl⟩
                case rest =>
                  obtain ⟨rfl, rfl⟩ := hcut
                  clear hcE hple hE
                  go_upto_block 4 with fail
                  go_cut [32, 33] from 216 to 226 (fun s32 _ wx => s32 = .int .i64 fe ∧ W2 = wx)
                  case first =>
                    have HFE := Lib.hid hfe
                    clear hfe HX HRW HSL HOKR HTQ
                    go_wp2_with fail
                    go_loopg [32, 33] (E - behind) (fun gk s32 s33 wr => ∃ q c : Nat, q ≤ E ∧ behind ≤ q ∧ s33 = .int .i64 q ∧ s32 = .int .i64 c ∧ gk = E - q ∧ W2 = wr ∧ c ≤ q ∧ Hid (c + cntN l q (E - q) = fe))
                    case atStart => exact ⟨behind, 0, hbe, Nat.le_refl _, rfl, rfl, rfl, rfl, Nat.zero_le _, Lib.hid (by rw [Nat.zero_add]; exact HFE.out)⟩
                    case round =>
                      obtain ⟨q, c, hqE, hbq, rfl, rfl, hgk, rfl, hcq, HC⟩ := hrel
                      by_cases hlt : q < E
                      · have hstep : cntN l q (E - q) = (if byt l q = 10 then 1 else 0) + cntN l (q + 1) (E - (q + 1)) := by
                          rw [show E - q = (E - (q + 1)) + 1 by omega, cntN]
                        have hql : q < l.length := by omega
                        by_cases h10 : byt l q = 10
                        · have g10 : ((byt l q : Int) == 10) = true := by rw [h10]; rfl
                          have HC2 : Hid (c + 1 + cntN l (q + 1) (E - (q + 1)) = fe) := Lib.hid (by rw [← HC.out, hstep, if_pos h10]; omega)
                          clear h10 hstep HC
                          go_wp2_with fail
                          go_roundg (E - (q + 1))
                          case measure => omega
                          case rel => exact ⟨q + 1, c + 1, by omega, by omega, by go_num, by go_num, rfl, rfl, by omega, HC2⟩
                        · have g10 : ((byt l q : Int) == 10) = false := by rw [beq_eq_false_iff_ne]; omega
                          have HC2 : Hid (c + cntN l (q + 1) (E - (q + 1)) = fe) := Lib.hid (by rw [← HC.out, hstep, if_neg h10]; omega)
                          clear h10 hstep HC
                          go_wp2_with fail
                          go_roundg (E - (q + 1))
                          case measure => omega
                          case rel => exact ⟨q + 1, c, by omega, by omega, by go_num, rfl, rfl, rfl, by omega, HC2⟩
                      · have hc : c = fe := by
                          have := HC.out
                          rw [show E - q = 0 by omega, cntN] at this
                          omega
                        subst hc
                        clear HC
                        go_wp2_with fail
                        go_meet
                        exact ⟨rfl, rfl⟩
                  case rest =>
                    obtain ⟨rfl, rfl⟩ := hcut
                    clear hfe
                    obtain ⟨f1, hf1⟩ : ∃ f1, (if hk = 0 ∧ (1 < fe ∨ full = 0) then (if full = 0 then 0 else min fe 1) else fe) = f1 := ⟨_, rfl⟩
                    obtain ⟨f2, hf2⟩ : ∃ f2, feedsM hk full fe = f2 := ⟨_, rfl⟩
                    have hf12 : f2 = if hk = 45 then 0 else f1 := by
                      rw [← hf2, ← hf1]
                      unfold feedsM
                      by_cases h45 : hk = 45
                      · rw [if_pos h45, if_pos h45]
                      · rw [if_neg h45, if_neg h45]
                        by_cases h0 : hk = 0
                        · rw [if_pos h0]
                          by_cases hfu : full = 0
                          · rw [if_pos hfu, if_pos ⟨h0, .inr hfu⟩]
                          · rw [if_neg hfu]
                            by_cases h1 : 1 < fe
                            · rw [if_pos ⟨h0, .inl h1⟩]
                            · rw [if_neg (fun x => x.2.elim h1 hfu)]; omega
                        · rw [if_neg h0, if_neg (fun x => h0 x.1)]
                    have hf2l : f2 ≤ l.length := by
                      rw [hf12]
                      split
                      · omega
                      · rw [← hf1]
                        split
                        · split <;> omega
                        · omega
                    have HF1 := Lib.hid hf1
                    have HF12 := Lib.hid hf12
                    have HF2 := Lib.hid hf2
                    clear hf1 hf12 hf2
                    obtain ⟨ga, hga⟩ : ∃ ga, decide (hk = 0 ∧ (1 < fe ∨ full = 0)) = ga := ⟨_, rfl⟩
                    have HGA := Lib.hid hga
                    clear hga
                    go_upto_region 46 with fail
                    go_cut [236] from 227 to 236 (fun s wx => s = .bool ga ∧ W2 = wx)
                    case first =>
                      have hg := HGA.out
                      clear HGA HF1 HF12 HF2 HX HRW HSL HOKR HTQ
                      by_cases h0 : hk = 0
                      · have g0 : ((hk : Int) == 0) = true := by rw [h0]; rfl
                        by_cases h1 : 1 < fe
                        · obtain rfl : ga = true := by rw [← hg]; exact decide_eq_true ⟨h0, .inl h1⟩
                          clear hg h0
                          go_wp2_with fail
                          go_meet
                          exact ⟨rfl, rfl⟩
                        · have gd1 : decide ((1 : Int) < (fe : Int)) = false := decide_eq_false (by omega)
                          by_cases hfu : full = 0
                          · obtain rfl : ga = true := by rw [← hg]; exact decide_eq_true ⟨h0, .inr hfu⟩
                            clear hg h0
                            go_wp2_with fail
                            go_meet
                            exact ⟨by simp <;> omega, rfl⟩
                          · obtain rfl : ga = false := by rw [← hg]; exact decide_eq_false (fun x => x.2.elim h1 hfu)
                            clear hg h0
                            go_wp2_with fail
                            go_meet
                            exact ⟨by simp <;> omega, rfl⟩
                      · have g0 : ((hk : Int) == 0) = false := by rw [beq_eq_false_iff_ne]; omega
                        obtain rfl : ga = false := by rw [← hg]; exact decide_eq_false (fun x => h0 x.1)
                        clear hg h0
                        go_wp2_with fail
                        go_meet
                        exact ⟨rfl, rfl⟩
                    case rest =>
                      obtain ⟨rfl, rfl⟩ := hcut
                      go_upto_if 236 with fail
                      go_cut [32] from 236 to 240 (fun s wx => s = .int .i64 f1 ∧ W2 = wx)
                      case first =>
                        have hg := HGA.out
                        have h1 := HF1.out
                        clear HGA HF1 HF12 HF2 HX HRW HSL HOKR HTQ
                        cases ga with
                        | true =>
                          have hc := of_decide_eq_true hg
                          rw [if_pos hc] at h1
                          by_cases hfu : full = 0
                          · rw [if_pos hfu] at h1
                            subst h1
                            have hlt0 : (full : Int) - 1 < 0 := by omega
                            clear hg hc
                            go_wp2_with fail
                            go_meet
                            exact ⟨rfl, rfl⟩
                          · rw [if_neg hfu] at h1
                            have hlt0 : ¬ (full : Int) - 1 < 0 := by omega
                            have hmn : min (fe : Int) 1 = f1 := by omega
                            clear hg hc h1
                            go_wp2_with fail
                            go_meet
                            exact ⟨rfl, rfl⟩
                        | false =>
                          rw [if_neg (of_decide_eq_false hg)] at h1
                          subst h1
                          clear hg
                          go_wp2_with fail
                          go_meet
                          exact ⟨rfl, rfl⟩
                      case rest =>
                        obtain ⟨rfl, rfl⟩ := hcut
                        clear HF1 HGA
                        obtain ⟨gb, hgb⟩ : ∃ gb, ((hk : Int) == 45) = gb := ⟨_, rfl⟩
                        have HGB := Lib.hid hgb
                        clear hgb
                        go_upto_region 50 with fail
                        go_cut [242] from 241 to 242 (fun s wx => s = .bool gb ∧ W2 = wx)
                        case first =>
                          go_wp2_with fail
                          go_meet
                          exact ⟨by rw [HGB.out], rfl⟩
                        case rest =>
                          obtain ⟨rfl, rfl⟩ := hcut
                          go_upto_if 242 with fail
                          go_cut [32] from 242 to 242 (fun s wx => s = .int .i64 f2 ∧ W2 = wx)
                          case first =>
                            have hg := HGB.out
                            have h1 := HF12.out
                            clear HGB HF12 HF2 HX HRW HSL HOKR HTQ
                            cases gb with
                            | true =>
                              rw [if_pos (by rw [beq_iff_eq] at hg; omega)] at h1
                              subst h1
                              clear hg
                              go_wp2_with fail
                              go_meet
                              exact ⟨rfl, rfl⟩
                            | false =>
                              rw [if_neg (by rw [beq_eq_false_iff_ne] at hg; omega)] at h1
                              subst h1
                              clear hg
                              go_wp2_with fail
                              go_meet
                              exact ⟨rfl, rfl⟩
                          case rest =>
                            obtain ⟨rfl, rfl⟩ := hcut
                            clear HGB HF12
                            obtain ⟨ys, hys⟩ : ∃ ys, acc.take full = ys := ⟨_, rfl⟩
                            have hyl : ys.length = full := by rw [← hys, List.length_take]; omega
                            obtain ⟨hTn, hRe⟩ := HX.out
                            have hres := HOKR.out hTn
                            rw [hRe] at hres
                            simp only [] at hres
                            rw [hys] at hres
                            have htd : toldM ys fe fo hk = blockM ys fo ++ List.replicate f2 10 := by unfold toldM; rw [hyl, HF2.out]
                            have hsum : sumL ys ≤ 900001 := by
                              have := HSZ.out
                              rw [hRe] at this
                              simp only [] at this
                              rw [← hys]
                              exact Nat.le_trans (sumL_take acc full) (by omega)
                            rw [hys] at HSL
                            have hbll := Nat.le_trans (blockM_len ys fo) hsum
                            have hrpl : (List.replicate f2 (10 : UInt8)).length ≤ 900000 := by rw [List.length_replicate]; omega
                            have hFB := fun w h => rfold_c (.slice ao full cp) ys fo w h (by omega)
                            have hFE := fun w => rfeeds_c f2 w (by omega)
                            obtain ⟨tx, htx⟩ : ∃ tx, toldM ys fe fo hk = tx := ⟨_, rfl⟩
                            rw [htx] at hres htd
                            generalize blockM ys fo = bl at *
                            generalize List.replicate f2 (10 : UInt8) = rp at *
                            subst htd
                            have hst := HST.out
                            rw [hst] at hres
                            have HX3 : Hid (x1 = ⟨1, st, p, has, tr, bl ++ rp⟩ ∧ x2 = (E : Int) ∧ x3 = 0) := Lib.hid (by
                              injection hres with h1 h2
                              injection h2 with h2 h3
                              exact ⟨h1, h2, h3⟩)
                            clear hres hTn hRe htx hst HX HF2 HOKR HTQ hyl hys hsum
                            have y1 := HRW.out.node.cell 1
                            have y6 := HRW.out.node.cell 6
                            have x6 := HRW.out.node.free 6
                            simp only [List.getElem?_cons_zero, List.getElem?_cons_succ] at y1 y6
                            have hfu1 : (full : Int) - 1 + 1 = full := by omega
                            have hfu2 : IntKind.i64.wrap ((full : Int) - 1 + 1) = (full : Int) := by rw [hfu1]; exact IntWalk.i64_in _ (by omega)
                            have hfcp : (full : Int) ≤ (cp : Int) := by clear hfu1 hfu2; omega
                            have hfu3 : IntKind.i64.wrap (full : Int) = (full : Int) := IntWalk.i64_in _ (by clear hfu1 hfu2; omega)
                            have hfu4 : (0 : Int) ≤ (full : Int) := by clear hfu1 hfu2 hfu3; omega
                            go_upto_region 52 with fail
                            go_cut [] from 243 to 254 (fun wx => wx = (W2.drew).setCell ⟨w.heap.size + 1, 6, none⟩ (.string ⟨(bl ++ rp).toArray⟩))
                            case first =>
                              obtain ⟨w5, hw5⟩ : ∃ w5, w5 = W2.drew := ⟨_, rfl⟩
                              have y1' : w5.cell? ⟨w.heap.size + 1, 1, none⟩ = some (.int .i64 st) := by rw [hw5]; exact y1
                              have y6' : w5.cell? ⟨w.heap.size + 1, 6, none⟩ = some (.string ⟨#[]⟩) := by rw [hw5]; exact y6
                              have x6' : w5.frozen? ⟨w.heap.size + 1, 6, none⟩ = false := by rw [hw5]; exact x6
                              have hS5 : Slc w5 (.slice ao full cp) ys := by rw [hw5]; exact HSL.out
                              have hFB5 := (hFB w5 hS5).mono (R' := fun e w'' => e = .returned (.string ⟨bl.toArray⟩) ∧ w'' = w5) (fun _ _ h => ⟨h.1, h.2.symm⟩)
                              have hFE5 := (hFE w5).mono (R' := fun e w'' => e = .returned (.string ⟨rp.toArray⟩) ∧ w'' = w5) (fun _ _ h => ⟨h.1, h.2.symm⟩)
                              refine wp_region_still_tail 12 (by kernel_rfl) (by kernel_rfl) ?_
                              simp only [List.take_succ_cons, List.take_zero, List.drop_succ_cons, List.drop_zero]
                              rw [show ({ W2 with drawn := W2.drawn + 1 } : World) = w5 from hw5.symm]
                              have HW5 := Lib.hid hw5
                              clear hw5 y1 y6 x6 hS5 hFB hFE HSL HRW HX3
                              repeat still_step
                              still_call hFB5
                              repeat still_step
                              still_call hFE5
                              have hs1 := run_string_add_sum (P := Tryd.prog) (w := w5) ⟨bl.toArray⟩ ⟨rp.toArray⟩ (by show bl.length + rp.length ≤ _; omega)
                              repeat still_step
                              refine wpStill_nil ?_
                              go_wp2_with fail
                              go_meet
                              exact by rw [← HW5.out]
                            case rest =>
                              have hR7 : RW w W2.drew (nodeCells 1 st p 0 [] [] [] (.slice none 0 0) (.slice none 0 0) (.slice none 0 0) has tr) := ⟨below_drewN HRW.out.below 1, HRW.out.res, HRW.out.node, HRW.out.size⟩
                              have hR9 : RW w (W2.drew.setCell ⟨w.heap.size + 1, 6, none⟩ (.string ⟨(bl ++ rp).toArray⟩)) (nodeCells 1 st p 0 [] [] (bl ++ rp) (.slice none 0 0) (.slice none 0 0) (.slice none 0 0) has tr) :=
                                ⟨hR7.below.setCell (p := ⟨w.heap.size + 1, 6, none⟩) (Nat.le_succ _) _, hR7.res.put_far (p := ⟨w.heap.size + 1, 6, none⟩) (by simp) _, hR7.node.put 6 _, by simpa [World.setCell] using hR7.size⟩
                              rw [← hcut] at hR9
                              obtain ⟨w9, hw9⟩ : ∃ w9, w9 = wc := ⟨_, rfl⟩
                              rw [← hw9] at hR9 ⊢
                              clear hw9 hcut hR7 y1 y6 x6 hFB hFE HSL HRW
                              generalize bl ++ rp = tx at *
                              have hRb := hR9.below
                              have hRf := hR9.res
                              obtain ⟨c0, c1, c2, c3, c4, c5, c6, c7, c8, c9, c10, c11⟩ := hR9.node.cells12
                              clear hR9
                              obtain ⟨d0, d1, d2, d3, d4, d5, d6, d7, d8, d9, d10, d11⟩ := hRf.cells12
                              obtain ⟨f0, f1, f2, f3, f4, f5, f6, f7, f8, f9, f10, f11⟩ := hRf.free12
                              have hN := hRf.store12 (.int .i64 1) (.int .i64 st) (.int .i64 p) (.int .i64 0) (.string ⟨#[]⟩) (.string ⟨#[]⟩) (.string ⟨tx.toArray⟩) (.slice none 0 0) (.slice none 0 0) (.slice none 0 0) (.bool has) (.string ⟨tr.toArray⟩)
                              have hBN := below12 hRb (Nat.le_refl _) (.int .i64 1) (.int .i64 st) (.int .i64 p) (.int .i64 0) (.string ⟨#[]⟩) (.string ⟨#[]⟩) (.string ⟨tx.toArray⟩) (.slice none 0 0) (.slice none 0 0) (.slice none 0 0) (.bool has) (.string ⟨tr.toArray⟩)
                              have HN := Lib.hid hN
                              have HBN := Lib.hid hBN
                              clear hN hBN hRf hRb
                              have HX := HX3
                              clear HX3
                              go_wp2_with fail
                              generalize ((((((((((((w9).setCell ⟨w.heap.size, 0, none⟩ (.int .i64 1)).setCell ⟨w.heap.size, 1, none⟩ (.int .i64 st)).setCell ⟨w.heap.size, 2, none⟩ (.int .i64 p)).setCell ⟨w.heap.size, 3, none⟩ (.int .i64 0)).setCell ⟨w.heap.size, 4, none⟩ (.string ⟨#[]⟩)).setCell ⟨w.heap.size, 5, none⟩ (.string ⟨#[]⟩)).setCell ⟨w.heap.size, 6, none⟩ (.string ⟨tx.toArray⟩)).setCell ⟨w.heap.size, 7, none⟩ (.slice none 0 0)).setCell ⟨w.heap.size, 8, none⟩ (.slice none 0 0)).setCell ⟨w.heap.size, 9, none⟩ (.slice none 0 0)).setCell ⟨w.heap.size, 10, none⟩ (.bool has)).setCell ⟨w.heap.size, 11, none⟩ (.string ⟨tr.toArray⟩) = wf at *
                              obtain ⟨r0, r1, r2, r3, r4, r5, r6, r7, r8, r9, r10, r11⟩ := HN.out.cells12
                              obtain ⟨rfl, rfl, rfl⟩ := HX.out
                              refine bodyPost_ret (v := .tuple #[.agg (nodeCells 1 st p 0 [] [] tx (.slice none 0 0) (.slice none 0 0) (.slice none 0 0) has tr).toArray, .int .i64 E, .int .i64 0]) ?_ rfl ?_
                              · simp [results, Tryd.results59, go_sem, r0, r1, r2, r3, r4, r5, r6, r7, r8, r9, r10, r11]
                              · exact ⟨rfl, HBN.out⟩
end Go.Proofs.YtobojdkloblfbaaDoor
