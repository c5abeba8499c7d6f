/- The walks of the document's block scalars: their headers. -/
import Derived.Test.YtobojdkloblfbaaDoorPBloc2
import Derived.Test.YtobojdkloblfbaaDoorWRefKind
import Derived.Test.YtobojdkloblfbaaDoorWRefSign
import Derived.Deep.DeepCutAuto
namespace Go.Proofs.YtobojdkloblfbaaDoor
open Go.RowKit U Go.Proofs

def isDigR (l : List UInt8) (s : Hd) : Bool := decide (s.1 = 0 ∧ 49 ≤ byt l s.2.2 ∧ byt l s.2.2 ≤ 57)
def isSgnR (l : List UInt8) (s : Hd) : Bool := decide (s.2.1 = 0 ∧ (byt l s.2.2 = 43 ∨ byt l s.2.2 = 45))
theorem hdStep_boolR (l : List UInt8) (s : Hd) : hdStep l s = if isDigR l s then (byt l s.2.2 - 48, s.2.1, s.2.2 + 1) else if isSgnR l s then (s.1, byt l s.2.2, s.2.2 + 1) else s := by
  unfold hdStep isDigR isSgnR
  simp only [decide_eq_true_eq]
theorem hdStep_end {l : List UInt8} {s : Hd} (h : l.length ≤ s.2.2) : hdStep l s = s := by
  have hb : byt l s.2.2 = 0 := byt_ge _ _ h
  unfold hdStep
  rw [hb, if_neg (by omega), if_neg (by omega)]
theorem hdIter_end {l : List UInt8} : ∀ (k : Nat) {s : Hd}, l.length ≤ s.2.2 → hdIter l k s = s
  | 0, _, _ => rfl
  | k + 1, s, h => by rw [hdIter, hdStep_end h, hdIter_end k h]
/-- What the document's header tells. -/
def rhead (l : List UInt8) (p : Nat) : Value :=
  .tuple (if hdBad l (p + 1) then #[.int .i64 0, .int .i64 0, .int .u8 0, .string ⟨#[]⟩, .bool false, .int .i64 (hdEnd l (p + 1))]
    else #[.int .i64 (rowTo l (p + 1)), .int .i64 (hdM l (p + 1)).1, .int .u8 (hdM l (p + 1)).2.1, .string ⟨(hdTrail l (p + 1)).toArray⟩, .bool (hdHas l (p + 1)), .int .i64 (-1)])
def RHRet (l : List UInt8) (p : Nat) (w : World) (e : Ending) (w' : World) : Prop := e = .returned (rhead l p) ∧ w = w'
theorem rhead_of {l : List UInt8} {p n keep q e t : Nat} {bad has : Bool} {tr : List UInt8} {w : World}
    (hr : hdM l (p + 1) = (n, keep, q) ∧ hdEnd l (p + 1) = e ∧ hdBad l (p + 1) = bad ∧ hdHas l (p + 1) = has ∧ hdTrail l (p + 1) = tr ∧ rowTo l (p + 1) = t) :
    RHRet l p w (.returned (.tuple (if bad then #[.int .i64 0, .int .i64 0, .int .u8 0, .string ⟨#[]⟩, .bool false, .int .i64 e]
    else #[.int .i64 t, .int .i64 n, .int .u8 keep, .string ⟨tr.toArray⟩, .bool has, .int .i64 (-1)]))) w := by
  obtain ⟨h1, h2, h3, h4, h5, h6⟩ := hr
  unfold RHRet rhead
  rw [h1, h2, h3, h4, h5, h6]
  exact ⟨rfl, rfl⟩
set_option maxRecDepth 100000 in
set_option maxHeartbeats 8000000 in
theorem rheader_c (l : List UInt8) (p : Nat) (w : World) (hs : l.length ≤ 1000000) (hp : p < l.length) (h10 : byt l p ≠ 10) :
    Calls Tryd.prog 82 #[.string ⟨l.toArray⟩, .int .i64 p] w (RHRet l p w) := by
  go_enter Tryd.func82, Tryd.ntmps82
  go_wp2_with fail
  go_loopg [10, 11, 12, 13] 2 (fun gk s10 s11 s12 s13 wr => ∃ (j : Nat) (h : Hd), j ≤ 2 ∧ gk = 2 - j ∧ s13 = .int .i64 j ∧ s10 = .int .i64 h.2.2 ∧ s11 = .int .i64 h.1 ∧ s12 = .int .u8 h.2.1 ∧ h.2.2 ≤ l.length ∧ w = wr ∧ Hid (hdIter l (2 - j) h = hdM l (p + 1)) ∧ h.1 ≤ 9 ∧ (h.2.1 = 0 ∨ h.2.1 = 43 ∨ h.2.1 = 45))
  case atStart => exact ⟨0, (0, 0, p + 1), by omega, rfl, rfl, by go_num, rfl, rfl, by simp only []; omega, rfl, Lib.hid rfl, by simp, .inl rfl⟩
  case round =>
    obtain ⟨j, h, hj, hgk, rfl, rfl, rfl, rfl, hh, rfl, HI, h9, hsg⟩ := hrel
    obtain ⟨n, keep, q⟩ := h
    simp only [] at hh HI h9 hsg ⊢
    by_cases hgo : j < 2 ∧ q < l.length
    · obtain ⟨hj2, hql⟩ := hgo
      have HSt : Hid (hdIter l (2 - (j + 1)) (hdStep l (n, keep, q)) = hdM l (p + 1)) := Lib.hid (by
        have h1 := HI.out
        rw [show 2 - j = (2 - (j + 1)) + 1 by omega, hdIter] at h1
        exact h1)
      have hsb := hdStep_boolR l (n, keep, q)
      have hdi : isDigR l (n, keep, q) = decide (n = 0 ∧ 49 ≤ byt l q ∧ byt l q ≤ 57) := rfl
      have hsi : isSgnR l (n, keep, q) = decide (keep = 0 ∧ (byt l q = 43 ∨ byt l q = 45)) := rfl
      clear HI
      simp only [] at hsb
      generalize isDigR l (n, keep, q) = dg at *
      generalize isSgnR l (n, keep, q) = sg at *
      have HDI := Lib.hid hdi
      have HSI := Lib.hid hsi
      have HSB := Lib.hid hsb
      clear hdi hsi hsb
      go_upto_region 5 with fail
      go_cut [29] (fun s wx => s = .bool dg ∧ w = wx)
      case first =>
        have hd := HDI.out
        clear HDI HSI HSB HSt
        by_cases h0 : n = 0
        · have g0 : ((n : Int) == 0) = true := by rw [h0]; rfl
          by_cases h1 : 49 ≤ byt l q
          · by_cases h2 : byt l q ≤ 57
            · obtain rfl : dg = true := by rw [hd]; exact decide_eq_true ⟨h0, h1, h2⟩
              clear hd h0
              go_wp2_with fail
              go_meet
              exact ⟨by rw [decide_eq_true (by omega)], rfl⟩
            · obtain rfl : dg = false := by rw [hd]; exact decide_eq_false (fun x => h2 x.2.2)
              clear hd h0
              go_wp2_with fail
              go_meet
              exact ⟨by rw [decide_eq_false (by omega)], rfl⟩
          · obtain rfl : dg = false := by rw [hd]; exact decide_eq_false (fun x => h1 x.2.1)
            clear hd h0
            go_wp2_with fail
            go_meet
            exact ⟨rfl, rfl⟩
        · have g0 : ((n : Int) == 0) = false := by rw [beq_eq_false_iff_ne]; omega
          obtain rfl : dg = false := by rw [hd]; exact decide_eq_false (fun x => h0 x.1)
          clear hd h0
          go_wp2_with fail
          go_meet
          exact ⟨rfl, rfl⟩
      case rest =>
        obtain ⟨rfl, rfl⟩ := hcut
        cases dg with
        | true =>
          obtain ⟨hn0, hb1, hb2⟩ := of_decide_eq_true HDI.out.symm
          have HR : Hid (hdIter l (2 - (j + 1)) (byt l q - 48, keep, q + 1) = hdM l (p + 1)) := Lib.hid (by
            have h1 := HSt.out
            rw [HSB.out, if_pos rfl] at h1
            exact h1)
          have hcast : ((byt l q - 48 : Nat) : Int) = (byt l q : Int) - 48 := by omega
          have hw8 : IntKind.u8.wrap ((byt l q : Int) - 48) = (byt l q : Int) - 48 := IntWalk.u8_in _ (by omega)
          have HCA := Lib.hid hcast
          clear HDI HSI HSB HSt hn0 hcast
          go_wp2_with fail
          go_roundg (2 - (j + 1))
          case measure => omega
          case rel => exact ⟨j + 1, (byt l q - 48, keep, q + 1), by omega, rfl, by go_num, by go_num, by simp only []; rw [HCA.out], rfl, by simp only []; omega, rfl, HR, by simp only []; omega, hsg⟩
        | false =>
          clear HDI
          go_upto_region 8 with fail
          go_cut [51] (fun s wx => s = .bool sg ∧ w = wx)
          case first =>
            have hd := HSI.out
            clear HSI HSB HSt
            by_cases h0 : keep = 0
            · have g0 : ((keep : Int) == 0) = true := by rw [h0]; rfl
              by_cases h1 : byt l q = 43
              · have g1 : ((byt l q : Int) == 43) = true := by rw [h1]; rfl
                obtain rfl : sg = true := by rw [hd]; exact decide_eq_true ⟨h0, .inl h1⟩
                clear hd h0 h1
                go_wp2_with fail
                go_meet
                exact ⟨rfl, rfl⟩
              · have g1 : ((byt l q : Int) == 43) = false := by rw [beq_eq_false_iff_ne]; omega
                by_cases h2 : byt l q = 45
                · have g2 : ((byt l q : Int) == 45) = true := by rw [h2]; rfl
                  obtain rfl : sg = true := by rw [hd]; exact decide_eq_true ⟨h0, .inr h2⟩
                  clear hd h0 h1 h2
                  go_wp2_with fail
                  go_meet
                  exact ⟨rfl, rfl⟩
                · have g2 : ((byt l q : Int) == 45) = false := by rw [beq_eq_false_iff_ne]; omega
                  obtain rfl : sg = false := by rw [hd]; exact decide_eq_false (fun x => x.2.elim h1 h2)
                  clear hd h0 h1 h2
                  go_wp2_with fail
                  go_meet
                  exact ⟨rfl, rfl⟩
            · have g0 : ((keep : Int) == 0) = false := by rw [beq_eq_false_iff_ne]; omega
              obtain rfl : sg = false := by rw [hd]; exact decide_eq_false (fun x => h0 x.1)
              clear hd h0
              go_wp2_with fail
              go_meet
              exact ⟨rfl, rfl⟩
          case rest =>
            obtain ⟨rfl, rfl⟩ := hcut
            cases sg with
            | true =>
              obtain ⟨hk0, hb⟩ := of_decide_eq_true HSI.out.symm
              have HR : Hid (hdIter l (2 - (j + 1)) (n, byt l q, q + 1) = hdM l (p + 1)) := Lib.hid (by
                have h1 := HSt.out
                rw [HSB.out, if_neg (by decide), if_pos rfl] at h1
                exact h1)
              have HB := Lib.hid hb
              clear HSI HSB HSt hk0 hb
              go_wp2_with fail
              go_roundg (2 - (j + 1))
              case measure => omega
              case rel => exact ⟨j + 1, (n, byt l q, q + 1), by omega, rfl, by go_num, by go_num, rfl, rfl, by simp only []; omega, rfl, HR, h9, .inr HB.out⟩
            | false =>
              have HR : Hid (hdIter l (2 - (j + 1)) (n, keep, q) = hdM l (p + 1)) := Lib.hid (by
                have h1 := HSt.out
                rw [HSB.out, if_neg (by decide), if_neg (by decide)] at h1
                exact h1)
              clear HSI HSB HSt
              go_wp2_with fail
              go_roundg (2 - (j + 1))
              case measure => omega
              case rel => exact ⟨j + 1, (n, keep, q), by omega, rfl, by go_num, rfl, rfl, rfl, hh, rfl, HR, h9, hsg⟩
    · have hM : hdM l (p + 1) = (n, keep, q) := by
        rw [← HI.out]
        by_cases hj2 : j < 2
        · exact hdIter_end _ (by simp only []; omega)
        · rw [show 2 - j = 0 by omega]; rfl
      have hpt : rowTo l p = rowTo l (p + 1) := (rowTo_same (Nat.le_succ p) (by omega) (fun i h1 h2 => by rw [show i = p by omega]; exact h10)).symm
      have hT : rowTo l (p + 1) = rowTo l q := by
        have := (hdM_is (l := l) (p := p + 1) (by omega)).2.2.2.2
        rw [hM] at this
        exact this.symm
      have hE : hdEnd l (p + 1) = q + run whN l q := by unfold hdEnd; rw [hM]
      have hBd : hdBad l (p + 1) = decide (hdEnd l (p + 1) < rowTo l (p + 1) ∧ (byt l (hdEnd l (p + 1)) ≠ 35 ∨ hdEnd l (p + 1) = q)) := by unfold hdBad; rw [hM]
      have hHas : hdHas l (p + 1) = decide (hdEnd l (p + 1) < rowTo l (p + 1)) := rfl
      have hTr : hdTrail l (p + 1) = if hdHas l (p + 1) then noteTx l (hdEnd l (p + 1)) else [] := rfl
      have hR := fun w => rrow_n l p w (by omega) (by omega)
      have htl := rowTo_le hh
      have hqt := rowTo_ge l q
      have hFi := fun w => first_c l q (rowTo l q) w (by omega) hqt htl
      have hfe : firstM l q (rowTo l q) = q + run whN l q := by
        have := first_row (l := l) q
        unfold firstM
        omega
      have het : hdEnd l (p + 1) ≤ rowTo l q := by rw [hE]; exact first_row q
      have heq : q ≤ hdEnd l (p + 1) := by omega
      rw [hfe, ← hE] at hFi
      rw [hpt, hT] at hR
      have hnt : noteTx l (hdEnd l (p + 1)) = cutM ((l.drop (hdEnd l (p + 1) + 1)).take (rowTo l q - (hdEnd l (p + 1) + 1))) := by
        have hs2 : rowTo l (hdEnd l (p + 1)) = rowTo l q := by
          refine rowTo_same heq (by omega) fun i h1 h2 => ?_
          have := run_all (P := whN) (l := l) i q h1 (by omega)
          intro e10
          rw [e10] at this
          cases this
        unfold noteTx
        rw [hs2]
        rfl
      have hC := fun w => rcut_c ((l.drop (hdEnd l (p + 1) + 1)).take (rowTo l q - (hdEnd l (p + 1) + 1))) w (by rw [List.length_take, List.length_drop]; omega)
      rw [← hnt] at hC
      obtain ⟨e, hee⟩ : ∃ e, hdEnd l (p + 1) = e := ⟨_, rfl⟩
      obtain ⟨bad, hbb⟩ : ∃ x, hdBad l (p + 1) = x := ⟨_, rfl⟩
      obtain ⟨has, hhh⟩ : ∃ x, hdHas l (p + 1) = x := ⟨_, rfl⟩
      obtain ⟨tr, htt⟩ : ∃ x, hdTrail l (p + 1) = x := ⟨_, rfl⟩
      obtain ⟨nt, hnn⟩ : ∃ x, noteTx l (hdEnd l (p + 1)) = x := ⟨_, rfl⟩
      rw [hnn] at hTr hC
      rw [htt, hhh] at hTr
      rw [hhh, hee, hT] at hHas
      rw [hbb, hee, hT] at hBd
      rw [hee] at het heq hFi hC
      have HRES : Hid (hdM l (p + 1) = (n, keep, q) ∧ hdEnd l (p + 1) = e ∧ hdBad l (p + 1) = bad ∧ hdHas l (p + 1) = has ∧ hdTrail l (p + 1) = tr ∧ rowTo l (p + 1) = rowTo l q) := Lib.hid ⟨hM, hee, hbb, hhh, htt, hT⟩
      have hg : ¬ j < 2 ∨ ¬ q < l.length := by omega
      clear hM hee hbb hhh htt hnn hT hE hpt hfe hnt HI hgo
      generalize rowTo l q = t at *
      generalize rowFrom l p = fr at *
      go_upto_region 3 with fail
      go_cut [26] (fun s wx => s = .bool false ∧ w = wx)
      case first =>
        by_cases hj2 : j < 2
        · have hq : ¬ q < l.length := by omega
          clear hg
          go_wp2_with fail
          go_meet
          exact ⟨rfl, rfl⟩
        · clear hg
          go_wp2_with fail
          go_meet
          exact ⟨rfl, rfl⟩
      case rest =>
        obtain ⟨rfl, rfl⟩ := hcut
        clear hg
        by_cases het2 : e < t
        · have ge : ((e : Int) == (t : Int)) = false := by rw [beq_eq_false_iff_ne]; omega
          have hel : e < l.length := by omega
          by_cases h35 : byt l e = 35
          · have g35 : ((byt l e : Int) == 35) = true := by rw [h35]; rfl
            by_cases heq2 : e = q
            · have hbd : bad = true := by rw [hBd]; exact decide_eq_true ⟨het2, .inr heq2⟩
              subst heq2 hbd
              clear hBd hHas h35 hTr
              go_wp2_with fail
              refine (hR _).mono ?_
              rintro e1 w1 ⟨rfl, rfl⟩
              go_wp2_with fail
              refine (hFi _).mono ?_
              rintro e1 w1 ⟨rfl, rfl⟩
              go_wp2_with fail
              exact bodyPost_ret (v := .tuple #[.int .i64 0, .int .i64 0, .int .u8 0, .string ⟨#[]⟩, .bool false, .int .i64 e]) (by simp [results, Tryd.results82, go_sem]) rfl (rhead_of HRES.out)
            · have hbd : bad = false := by rw [hBd]; exact decide_eq_false (fun x => x.2.elim (fun y => y h35) heq2)
              have hhs : has = true := by rw [hHas]; exact decide_eq_true het2
              have gq : (q : Int) < e := by omega
              have hnt : tr = nt := by rw [hTr, hhs]; rfl
              subst hbd hhs hnt
              have he1 : (e : Int) + 1 ≤ t := by omega
              clear hBd hHas h35 heq2 hTr
              go_wp2_with fail
              refine (hR _).mono ?_
              rintro e1 w1 ⟨rfl, rfl⟩
              go_wp2_with fail
              refine (hFi _).mono ?_
              rintro e1 w1 ⟨rfl, rfl⟩
              go_wp2_with fail
              refine (hC _).mono ?_
              rintro e1 w1 ⟨rfl, rfl⟩
              go_wp2_with fail
              exact bodyPost_ret (v := .tuple #[.int .i64 t, .int .i64 n, .int .u8 keep, .string ⟨tr.toArray⟩, .bool true, .int .i64 (-1)]) (by simp [results, Tryd.results82, go_sem]) rfl (rhead_of HRES.out)
          · have g35 : ((byt l e : Int) == 35) = false := by rw [beq_eq_false_iff_ne]; omega
            have hbd : bad = true := by rw [hBd]; exact decide_eq_true ⟨het2, .inl h35⟩
            subst hbd
            clear hBd hHas h35 hTr
            go_wp2_with fail
            refine (hR _).mono ?_
            rintro e1 w1 ⟨rfl, rfl⟩
            go_wp2_with fail
            refine (hFi _).mono ?_
            rintro e1 w1 ⟨rfl, rfl⟩
            go_wp2_with fail
            exact bodyPost_ret (v := .tuple #[.int .i64 0, .int .i64 0, .int .u8 0, .string ⟨#[]⟩, .bool false, .int .i64 e]) (by simp [results, Tryd.results82, go_sem]) rfl (rhead_of HRES.out)
        · have hbd : bad = false := by rw [hBd]; exact decide_eq_false (fun x => het2 x.1)
          have hhs : has = false := by rw [hHas]; exact decide_eq_false het2
          have ge : ((e : Int) == (t : Int)) = true := by rw [beq_iff_eq]; omega
          have hnt : tr = [] := by rw [hTr, hhs]; rfl
          subst hbd hhs hnt
          clear hBd hHas hTr
          go_wp2_with fail
          refine (hR _).mono ?_
          rintro e1 w1 ⟨rfl, rfl⟩
          go_wp2_with fail
          refine (hFi _).mono ?_
          rintro e1 w1 ⟨rfl, rfl⟩
          go_wp2_with fail
          exact bodyPost_ret (v := .tuple #[.int .i64 t, .int .i64 n, .int .u8 keep, .string ⟨#[]⟩, .bool false, .int .i64 (-1)]) (by simp [results, Tryd.results82, go_sem]) rfl (rhead_of HRES.out)
end Go.Proofs.YtobojdkloblfbaaDoor
