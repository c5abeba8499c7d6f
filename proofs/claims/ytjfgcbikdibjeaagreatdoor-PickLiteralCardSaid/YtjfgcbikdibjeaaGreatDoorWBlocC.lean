/- The walks of package bloc: how far a scalar's rows are in; the rows. -/
import Derived.Test.YtjfgcbikdibjeaaGreatDoorWBlocB
namespace Go.Proofs.YtjfgcbikdibjeaaGreatDoor
open Go.RowKit U Go.Proofs

attribute [local go_sem] ite_min' ite_max'
/-- What stands behind the first rows, as the walk finds it. -/
def fitB (l : List UInt8) (b : Nat) (n : Int) : Bool := decide (frontM l b < l.length ∧ markB l (frontM l b) = false ∧ n < (inM l (frontM l b) : Int))
def widthTo (l : List UInt8) (b : Nat) (n : Int) : Nat := if fitB l b n then l.length else frontM l b
theorem width_fit (l : List UInt8) (b : Nat) (n : Int) : widthM l b n = if fitB l b n then inM l (frontM l b) else l.length := by
  unfold widthM fitB
  by_cases h : frontM l b < l.length ∧ markB l (frontM l b) = false ∧ n < (inM l (frontM l b) : Int)
  · rw [if_pos h, decide_eq_true h]; rfl
  · rw [if_neg h, decide_eq_false h]; rfl
theorem width_le {l : List UInt8} {b : Nat} {n : Int} (hb : b ≤ l.length) (hst : St l b) : widthM l b n ≤ l.length := by
  obtain ⟨_, hf, _, _⟩ := front_is l _ b (Nat.le_refl _) hb hst
  have h1 := in_le hf
  have h2 := rowTo_le hf
  unfold widthM
  split <;> omega
/-- The rows end where they must. -/
theorem end_front (l : List UInt8) (w : Nat) : ∀ (d p : Nat), l.length - p ≤ d → p ≤ l.length → endM l w p = endM l w (frontM l p) := by
  intro d
  induction d with
  | zero => intro p h hp; rw [front_stop (by omega)]
  | succ d ih =>
    intro p h hp
    by_cases hc : p < l.length ∧ blankB l p = true
    · have := next_gt hc.1
      rw [front_go hc.1 hc.2, end_go hc.1 (by unfold okB; rw [blank_mark hc.1 hc.2, hc.2]; rfl)]
      exact ih _ (by omega) (next_le l p)
    · rw [front_stop hc]
theorem widthTo_ok {l : List UInt8} {b : Nat} {n : Int} (hb : b ≤ l.length) (hst : St l b) : endM l (widthM l b n) b ≤ widthTo l b n ∧ widthTo l b n ≤ l.length := by
  obtain ⟨_, hf, hsf, hbf⟩ := front_is l _ b (Nat.le_refl _) hb hst
  unfold widthTo
  rw [width_fit]
  cases hc : fitB l b n with
  | true => exact ⟨(end_is l _ _ b (Nat.le_refl _) hb).2, Nat.le_refl _⟩
  | false =>
    refine ⟨?_, hf⟩
    show endM l l.length b ≤ frontM l b
    rw [end_front l _ _ b (Nat.le_refl _) hb]
    refine Nat.le_of_eq (end_stop ?_)
    rintro ⟨h1, h2⟩
    unfold okB at h2
    have h3 := in_le hf
    have h4 := rowTo_le hf
    have h5 := hbf h1
    rw [h5, Bool.false_or] at h2
    have h6 := of_decide_eq_true (Bool.and_eq_true_iff.1 h2).2
    rw [blank_in hf, decide_eq_false_iff_not] at h5
    omega
set_option maxRecDepth 100000 in
set_option maxHeartbeats 8000000 in
theorem blwidth_c (g : Nat) (l : List UInt8) (b wd : Nat) (n : Int) (w : World) (h : BF w w g l b l.length wd) (hs : l.length ≤ 1073741824) (hb : b ≤ l.length) (hst : St l b)
    (_n1 : -9223372036854775808 ≤ n) (_n2 : n ≤ 9223372036854775807) :
    Calls Tryz.prog 116 #[.pointer (some ⟨g, 0, none⟩), .int .i64 n] w fun e w' =>
      e = .returned (.bool (tooM l (widthM l b n) (frontM l b) b).isNone) ∧ BF w w' g l b ((tooM l (widthM l b n) (frontM l b) b).getD (widthTo l b n)) (widthM l b n) := by
  obtain ⟨c0, c1, c2, c3⟩ := h.cells
  have hF := fun w => blfirst_c l b w hs hb
  have hff := front_is l _ b (Nat.le_refl _) hb hst
  have hWl : widthM l b n ≤ l.length := width_le hb hst
  have hM := fun w => marks_c l (frontM l b) w hs hff.2.1
  have hI := fun w => in_n l (frontM l b) w hs hff.2.1
  have hW := width_fit l b n
  have hTo : widthTo l b n = if fitB l b n then l.length else frontM l b := rfl
  have hfit : fitB l b n = decide (frontM l b < l.length ∧ markB l (frontM l b) = false ∧ n < (inM l (frontM l b) : Int)) := rfl
  have hfl := hff.2.1
  clear hff
  generalize inM l (frontM l b) = i at *
  generalize markB l (frontM l b) = mk at *
  generalize widthM l b n = W at *
  generalize widthTo l b n = To at *
  generalize frontM l b = f at *
  generalize fitB l b n = ft at *
  obtain ⟨T, hT⟩ : ∃ T, tooM l W f b = T := ⟨_, rfl⟩
  rw [hT]
  have H := Lib.hid h
  have HT := Lib.hid hT
  have HW := Lib.hid hW
  have HTo := Lib.hid hTo
  have HF := Lib.hid hfit
  have HS := Lib.hid hst
  clear h hT hW hTo hfit hst
  go_enter Tryz.func116, Tryz.ntmps116
  go_upto_region 1 with fail
  go_cut [5] (fun s wx => s = .int .i64 f ∧ BF w wx g l b l.length wd)
  case first =>
    go_quiet ((go_at_call 153; exact qs (hF _)))
    go_wp2_with fail
    go_meet
    exact ⟨rfl, H.out.drewN _⟩
  case rest =>
    obtain ⟨rfl, h1⟩ := hcut
    clear c0 c1 c2 c3 H hF
    obtain ⟨c0, c1, c2, c3⟩ := h1.cells
    have f2 := h1.2.free 2
    have f3 := h1.2.free 3
    have h2 := h1.setW l.length
    clear h1
    go_upto_region 3 with fail
    generalize wc.setCell ⟨g, 3, none⟩ (.int .i64 l.length) = w2 at *
    clear c0 c1 c2 c3 f2 f3
    obtain ⟨c0, c1, c2, c3⟩ := h2.cells
    have f2 := h2.2.free 2
    have f3 := h2.2.free 3
    have h2W := h2.setW i
    have h2T := h2.setTo f
    clear h2
    go_cut [49] (fun s wx => s = .bool ft ∧ w2 = wx)
    case first =>
      have hf := HF.out
      by_cases g1 : f < l.length
      · cases mk with
        | true =>
          obtain rfl : ft = false := by rw [hf]; simp
          clear hf HF HW HTo
          go_wp2_with fail
          refine (hM _).mono ?_
          rintro e w3 ⟨rfl, rfl⟩
          go_wp2_with fail
          go_meet
          exact ⟨rfl, rfl⟩
        | false =>
          by_cases g2 : n < (i : Int)
          · obtain rfl : ft = true := by rw [hf]; simp [g1, g2]
            clear hf HF HW HTo
            go_wp2_with fail
            refine (hM _).mono ?_
            rintro e w3 ⟨rfl, rfl⟩
            go_wp2_with fail
            refine (hI _).mono ?_
            rintro e w3 ⟨rfl, rfl⟩
            go_wp2_with fail
            go_meet
            exact ⟨rfl, rfl⟩
          · obtain rfl : ft = false := by rw [hf]; simp [g2]
            clear hf HF HW HTo
            go_wp2_with fail
            refine (hM _).mono ?_
            rintro e w3 ⟨rfl, rfl⟩
            go_wp2_with fail
            refine (hI _).mono ?_
            rintro e w3 ⟨rfl, rfl⟩
            go_wp2_with fail
            go_meet
            exact ⟨by simp only [Value.bool.injEq, decide_eq_false_iff_not]; omega, rfl⟩
      · obtain rfl : ft = false := by rw [hf]; simp [g1]
        clear hf HF HW HTo
        go_wp2_with fail
        go_meet
        exact ⟨rfl, rfl⟩
    case rest =>
      obtain ⟨rfl, rfl⟩ := hcut
      clear hM HF
      go_upto_if 49 with fail
      go_cut [] (fun wx => BF w wx g l b To W)
      case first =>
        have hw := HW.out
        have ht := HTo.out
        clear HW HTo
        cases ft with
        | true =>
          obtain rfl : W = i := by rw [hw]; rfl
          obtain rfl : To = l.length := by rw [ht]; rfl
          have HB := Lib.hid h2W
          clear hw ht h2W h2T
          go_wp2_with fail
          refine (hI _).mono ?_
          rintro e w3 ⟨rfl, rfl⟩
          go_wp2_with fail
          go_meet
          exact HB.out
        | false =>
          obtain rfl : W = l.length := by rw [hw]; rfl
          obtain rfl : To = f := by rw [ht]; rfl
          have HB := Lib.hid h2T
          clear hw ht h2W h2T
          go_wp2_with fail
          go_meet
          exact HB.out
      case rest =>
        have h3 := hcut
        clear hcut c0 c1 c2 c3 f2 f3 h2W h2T hI HW HTo
        obtain ⟨c0, c1, c2, c3⟩ := h3.cells
        have H := Lib.hid h3
        clear h3
        go_upto_region 6 with fail
        go_cut [6] (fun s wx => s = .int .i64 b ∧ BF w wx g l b To W)
        case first =>
          go_wp2_with fail
          go_meet
          exact ⟨rfl, H.out⟩
        case rest =>
          obtain ⟨rfl, h1⟩ := hcut
          have H := Lib.hid h1
          clear h1 c0 c1 c2 c3
          go_wp2_with fail
          go_loopg [6] (l.length - b) (fun gk x wr => ∃ p : Nat, p ≤ l.length ∧ x = .int .i64 p ∧ gk = l.length - p ∧ Hid (BF w wr g l b To W) ∧ Hid (tooM l W f p = T) ∧ Hid (St l p))
          case atStart => exact ⟨b, hb, rfl, rfl, H, HT, HS⟩
          case round =>
            obtain ⟨p, hp, rfl, hgk, H, HT, HS⟩ := hrel
            obtain ⟨c0, c1, c2, c3⟩ := H.out.cells
            by_cases hlt : p < f
            · have hRo := fun w => blrow_c l p w hs hp
              have hN := fun w => blnext_c l p w hs hp
              have hrl := rowM_len hp
              have hng := next_gt (l := l) (p := p) (by omega)
              have hnl := next_le l p
              have hgo := too_go (w := W) hfl hlt
              rw [HT.out] at hgo
              rw [← hrl] at hgo
              have HS2 : Hid (St l (nextM l p)) := Lib.hid (st_next l p)
              generalize nextM l p = q at *
              generalize rowM l p = rr at *
              clear hrl
              by_cases hlong : W < rr.length
              · have HE : Hid (T = some (p + W)) := Lib.hid (by rw [hgo, if_pos hlong])
                clear hgo HT HS2
                go_upto_region 9 with fail
                go_cut [87] (fun s wx => s = .bool true ∧ BF w wx g l b To W)
                case first =>
                  go_quiet ((go_at_call 156; exact qs (hRo _)))
                  go_wp2_with fail
                  go_meet
                  exact ⟨rfl, H.out.drewN _⟩
                case rest =>
                  obtain ⟨rfl, h1⟩ := hcut
                  clear c0 c1 c2 c3 H hRo
                  obtain ⟨c0, c1, c2, c3⟩ := h1.cells
                  have f2 := h1.2.free 2
                  have h2 := h1.setTo (p + W)
                  rw [show ((p + W : Nat) : Int) = (p : Int) + W by omega] at h2
                  have H := Lib.hid h2
                  clear h1 h2
                  go_wp2_with fail
                  go_ret
                  exact ⟨by rw [HE.out]; rfl, by rw [HE.out]; exact H.out⟩
              · have HT2 : Hid (tooM l W f q = T) := Lib.hid (by rw [hgo, if_neg hlong])
                clear hgo HT
                go_upto_region 9 with fail
                go_cut [87] (fun s wx => s = .bool false ∧ BF w wx g l b To W)
                case first =>
                  go_quiet ((go_at_call 156; exact qs (hRo _)))
                  go_wp2_with fail
                  go_meet
                  exact ⟨rfl, H.out.drewN _⟩
                case rest =>
                  obtain ⟨rfl, h1⟩ := hcut
                  clear c0 c1 c2 c3 H hRo
                  obtain ⟨c0, c1, c2, c3⟩ := h1.cells
                  have H := Lib.hid h1
                  clear h1
                  go_wp2_with fail
                  refine (hN _).mono ?_
                  rintro e w3 ⟨rfl, rfl⟩
                  go_wp2_with fail
                  go_roundg (l.length - q)
                  case measure => omega
                  case rel => exact ⟨q, hnl, rfl, rfl, H, HT2, HS2⟩
            · have HE : Hid (T = none) := Lib.hid (by rw [← HT.out]; exact too_end (by omega))
              clear HT
              go_wp2_with fail
              go_ret
              exact ⟨by rw [HE.out]; rfl, by rw [HE.out]; exact H.out⟩
end Go.Proofs.YtjfgcbikdibjeaaGreatDoor
