/- The walk of a passer's pass: rows are passed, and at each one that is met a function is asked. -/
import Derived.Test.YtjnmgmepolpcdaaDoorWNote2
import Derived.Deep.LoopGhost
namespace Go.Proofs.YtjnmgmepolpcdaaDoor
open Go.RowKit U Go.Proofs

/-- What a function that is asked at a row's beginning answers, and where the passer then stands. -/
def RowIs (W0 : World) (g : Nat) (l : List UInt8) (b0 : Nat) (row : Nat → Option Nat) (k : FuncId) (cap : Array Value) : Prop :=
  ∀ (w : World) (p : Nat) (xs : Notes) (nr : Bool) (lv : Value), PS W0 w g l p b0 xs nr lv → p ≤ l.length → rowFrom l p = p →
    Calls Tryd.prog k cap w fun e w' => e = .returned (.bool (row p).isNone) ∧ (row p).getD p ≤ l.length ∧ PS W0 w' g l ((row p).getD p) b0 xs nr lv
set_option maxRecDepth 100000 in
set_option maxHeartbeats 16000000 in
theorem pass_c {W0 w : World} {g : Nat} {l : List UInt8} {p0 b0 : Nat} {xs0 : Notes} {nr0 : Bool} {lv0 : Value} (row : Nat → Option Nat) (k : FuncId) (cap : Array Value) (hrow : RowIs W0 g l b0 row k cap)
    (hcf : ∀ w, Sem.run Tryd.prog (callFunc k cap) w = .ok (.enter k cap) w) (hps : PS W0 w g l p0 b0 xs0 nr0 lv0) (hs : l.length ≤ 1000000) (hp0 : p0 ≤ l.length) (hx0 : xs0.length ≤ p0) :
    Calls Tryd.prog 45 #[.pointer (some ⟨g, 0, none⟩), .func (.func k) #[] cap] w fun e w' => e = .returned (.bool (passR l b0 row true p0 xs0 nr0).2.2.2) ∧ (passR l b0 row true p0 xs0 nr0).2.2.1 ≤ l.length ∧ (passR l b0 row true p0 xs0 nr0).1.length ≤ 1000000 ∧
      ∃ lv', PS W0 w' g l (passR l b0 row true p0 xs0 nr0).2.2.1 b0 (passR l b0 row true p0 xs0 nr0).1 (passR l b0 row true p0 xs0 nr0).2.1 lv' := by
  obtain ⟨R, hR⟩ : ∃ R, passR l b0 row true p0 xs0 nr0 = R := ⟨_, rfl⟩
  rw [hR]
  have HR := Lib.hid hR
  have HPS := Lib.hid hps
  have HROW := Lib.hid hrow
  clear hR hps hrow
  go_enter Tryd.func45, Tryd.ntmps45
  go_wp2_with fail
  go_step3
  go_wp2_with fail
  go_step3
  go_wp2_with fail
  go_loopg [] (2 * (l.length - p0) + 2) (fun gk wr => ∃ (p : Nat) (xs : Notes) (nr : Bool) (lv : Value), gk = 2 * (l.length - p) + 2 ∧ Hid (PS W0 wr g l p b0 xs nr lv) ∧ p ≤ l.length ∧ xs.length ≤ p ∧ Hid (passR l b0 row true p xs nr = R))
  case atStart => exact ⟨p0, xs0, nr0, lv0, rfl, HPS, hp0, hx0, HR⟩
  case round =>
    obtain ⟨p1, xs1, nr1, lv1, hgk, H1, hp1, hx1, HP1⟩ := hrel
    have hM := marks_c H1.out (by omega) hp1
    have hpass := HP1.out
    rw [passR_beg] at hpass
    by_cases hm : rowFrom l p1 = p1 ∧ (kindM l p1 = 3 ∨ kindM l p1 = 4)
    · have HE : Hid (R = (xs1, nr1, p1, true)) := Lib.hid (by rw [← hpass, if_pos hm])
      rw [show marksB l p1 = true from decide_eq_true hm] at hM
      clear hpass hm
      go_wp2_with fail
      refine hM.mono ?_
      rintro e w1 ⟨rfl, n, rfl⟩
      go_wp2_with fail
      try rw [Exit.noGoto_ret]
      go_ret
      exact ⟨by rw [HE.out]; rfl, by rw [HE.out]; exact hp1, by rw [HE.out]; exact Nat.le_trans hx1 (by omega), lv1, by rw [HE.out]; exact H1.out.drewN _⟩
    · have HQ1 : Hid (passR l b0 row false p1 xs1 nr1 = R) := Lib.hid (by rw [← hpass, if_neg hm])
      rw [show marksB l p1 = false from decide_eq_false hm] at hM
      clear hpass hm
      go_wp2_with fail
      refine hM.mono ?_
      rintro e w1 ⟨rfl, n, hw1⟩
      have H2 : Hid (PS W0 w1 g l p1 b0 xs1 nr1 lv1) := Lib.hid (by rw [hw1]; exact H1.out.drewN _)
      clear hw1
      go_wp2_with fail
      go_loopg [] (2 * (l.length - p1) + 1) (fun g2 wy => ∃ (p : Nat) (xs : Notes) (nr : Bool) (lv : Value), g2 = 2 * (l.length - p) + 1 ∧ p1 ≤ p ∧ Hid (PS W0 wy g l p b0 xs nr lv) ∧ p ≤ l.length ∧ xs.length ≤ p ∧ Hid (passR l b0 row false p xs nr = R))
      case atStart => exact ⟨p1, xs1, nr1, lv1, rfl, Nat.le_refl _, H2, hp1, hx1, HQ1⟩
      case round =>
        rename_i gout
        obtain ⟨p, xs, nr, lv, hgk2, hp1p, H, hp, hx, HP⟩ := hrel
        obtain ⟨c0, c1, c2, c3, c4⟩ := H.out.cells
        have hpass := HP.out
        rw [passR_in] at hpass
        by_cases hlt : p < l.length
        · rw [if_neg (by omega)] at hpass
          go_upto_region 2 with fail
          go_cut [18] (fun s wx => s = .bool true ∧ PS W0 wx g l p b0 xs nr lv)
          case first =>
            go_quiet (fail)
            go_wp2_with fail
            go_meet
            exact ⟨rfl, H.out.drewN _⟩
          case rest =>
            obtain ⟨rfl, h1⟩ := hcut
            clear c0 c1 c2 c3 c4 H
            obtain ⟨c0, c1, c2, c3, c4⟩ := h1.cells
            have H := Lib.hid h1
            clear h1
            go_upto_region 3 with fail
            go_cut [5] (fun s wx => s = .int .u8 (byt l p) ∧ PS W0 wx g l p b0 xs nr lv)
            case first =>
              go_quiet (fail)
              go_wp2_with fail
              go_meet
              exact ⟨rfl, H.out.drewN _⟩
            case rest =>
              obtain ⟨rfl, h1⟩ := hcut
              clear c0 c1 c2 c3 c4 H
              obtain ⟨c0, c1, c2, c3, c4⟩ := h1.cells
              have f1 := h1.full.free 1
              have hgo := h1.go (p + 1)
              rw [show ((p + 1 : Nat) : Int) = (p : Int) + 1 by omega] at hgo
              have H := Lib.hid h1
              have HG := Lib.hid hgo
              clear h1 hgo
              have hw1 : IntKind.i64.wrap ((p : Int) + 1) = (p : Int) + 1 := IntWalk.i64_in _ (by omega)
              have hW := fun w => white_c (byt l p) w (byt_lt l p)
              cases hw : whN (byt l p) with
              | true =>
                rw [hw] at hW
                have HP2 : Hid (passR l b0 row false (p + 1) xs nr = R) := Lib.hid (by rw [if_pos hw] at hpass; exact hpass)
                clear hpass hw
                go_wp2_with fail
                refine (hW _).mono ?_
                rintro e w1 ⟨rfl, rfl⟩
                go_wp2_with fail
                go_roundg (2 * (l.length - (p + 1)) + 1)
                case measure => omega
                case rel => exact ⟨p + 1, xs, nr, lv, rfl, by omega, HG, by omega, by omega, HP2⟩
              | false =>
                rw [hw] at hW
                rw [if_neg (by rw [hw]; decide)] at hpass
                by_cases h10 : byt l p = 10
                · rw [if_pos h10] at hpass
                  have g10 : ((byt l p : Int) == 10) = true := by rw [h10]; rfl
                  have hC := HROW.out _ _ _ _ _ HG.out (by omega) (rowFrom_feed h10)
                  cases hq : row (p + 1) with
                  | none =>
                    rw [hq] at hC
                    have HP2 : Hid (passR l b0 row true (p + 1) xs nr = R) := Lib.hid (by rw [hq] at hpass; exact hpass)
                    clear hpass hw h10 hq
                    go_wp2_with fail
                    refine (hW _).mono ?_
                    rintro e w1 ⟨rfl, rfl⟩
                    go_wp2_with fail
                    refine hC.mono ?_
                    rintro e w2 ⟨rfl, hle, hP2⟩
                    have HF := Lib.hid hP2
                    clear hP2
                    go_wp2_with fail
                    go_roundg (2 * (l.length - (p + 1)) + 2)
                    case measure => omega
                    case rel => exact ⟨p + 1, xs, nr, lv, rfl, HF, by omega, by omega, HP2⟩
                  | some q =>
                    rw [hq] at hC
                    have HE : Hid (R = (xs, nr, q, false)) := Lib.hid (by rw [hq] at hpass; exact hpass.symm)
                    clear hpass hw h10 hq
                    go_wp2_with fail
                    refine (hW _).mono ?_
                    rintro e w1 ⟨rfl, rfl⟩
                    go_wp2_with fail
                    refine hC.mono ?_
                    rintro e w2 ⟨rfl, hle, hP2⟩
                    have HF := Lib.hid hP2
                    clear hP2
                    go_wp2_with fail
                    try rw [Exit.noGoto_ret]
                    go_ret
                    exact ⟨by rw [HE.out]; rfl, by rw [HE.out]; exact hle, by rw [HE.out]; exact Nat.le_trans hx (by omega), lv, by rw [HE.out]; exact HF.out⟩
                · rw [if_neg h10] at hpass
                  have g10 : ((byt l p : Int) == 10) = false := by simp; omega
                  have hto := note_to hlt h10
                  have htl := rowTo_le hp
                  cases hn : isNote l p with
                  | false =>
                    have HE : Hid (R = (xs, nr, p, true)) := Lib.hid (by rw [if_neg (by rw [hn]; decide)] at hpass; exact hpass.symm)
                    have hN := note_no H.out (by omega) hlt hn
                    clear hpass hw h10 hn
                    go_wp2_with fail
                    refine (hW _).mono ?_
                    rintro e w1 ⟨rfl, rfl⟩
                    go_wp2_with fail
                    refine hN.mono ?_
                    rintro e w2 ⟨rfl, n, rfl⟩
                    go_wp2_with fail
                    try rw [Exit.noGoto_ret]
                    go_ret
                    exact ⟨by rw [HE.out]; rfl, by rw [HE.out]; exact hp, by rw [HE.out]; exact Nat.le_trans hx (by omega), lv, by rw [HE.out]; exact H.out.drewN _⟩
                  | true =>
                    have HP2 : Hid (passR l b0 row false (rowTo l p) (xs ++ [(noteTx l p, aboveM l p)]) (if xs.isEmpty then decide (rowFrom l p < b0) else nr) = R) := Lib.hid (by rw [if_pos hn] at hpass; exact hpass)
                    have hN := note_yes H.out (by omega) hlt hn (by omega)
                    generalize (if xs.isEmpty then decide (rowFrom l p < b0) else nr) = nr2 at *
                    clear hpass hw h10 hn
                    go_wp2_with fail
                    refine (hW _).mono ?_
                    rintro e w1 ⟨rfl, rfl⟩
                    go_wp2_with fail
                    refine hN.mono ?_
                    rintro e w2 ⟨rfl, lv2, hP2⟩
                    have HF := Lib.hid hP2
                    clear hP2
                    go_wp2_with fail
                    go_roundg (2 * (l.length - rowTo l p) + 1)
                    case measure => omega
                    case rel => exact ⟨rowTo l p, _, nr2, lv2, rfl, by omega, HF, htl, by rw [List.length_append]; simp; omega, HP2⟩
        · have HE : Hid (R = (xs, nr, p, true)) := Lib.hid (by rw [if_pos (by omega)] at hpass; exact hpass.symm)
          clear hpass
          go_upto_region 2 with fail
          go_cut [18] (fun s wx => s = .bool false ∧ PS W0 wx g l p b0 xs nr lv)
          case first =>
            go_quiet (fail)
            go_wp2_with fail
            go_meet
            exact ⟨rfl, H.out.drewN _⟩
          case rest =>
            obtain ⟨rfl, h1⟩ := hcut
            clear c0 c1 c2 c3 c4 H
            have H := Lib.hid h1
            clear h1
            go_wp2_with fail
            try rw [Exit.noGoto_ret]
            go_ret
            exact ⟨by rw [HE.out]; rfl, by rw [HE.out]; exact hp, by rw [HE.out]; exact Nat.le_trans hx (by omega), lv, by rw [HE.out]; exact H.out⟩
end Go.Proofs.YtjnmgmepolpcdaaDoor
