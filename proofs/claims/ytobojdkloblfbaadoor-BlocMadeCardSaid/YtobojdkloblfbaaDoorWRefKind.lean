/- The walks of the document's answer of chapter 7: kinds of rows, and how many blank ones stand above. -/
import Derived.Test.YtobojdkloblfbaaDoorWRefRows
namespace Go.Proofs.YtobojdkloblfbaaDoor
open Go.RowKit U Go.Proofs

set_option maxRecDepth 100000 in
set_option maxHeartbeats 8000000 in
theorem rkind_c (l : List UInt8) (a : Int) (w : World) (hs : l.length ≤ 1073741824) :
    Calls Tryd.prog 85 #[.string ⟨l.toArray⟩, .int .i64 a] w fun e w' => e = .returned (.int .i64 (kindM l (heldM l a))) ∧ w = w' := by
  have hp := heldM_le l a
  have hR := fun w => rrow_c l a w hs
  generalize heldM l a = p at *
  have hft := from_le_to l p
  have htl := rowTo_le hp
  have hk := kind_ref l p hp
  have hF := fun w => first_c l (rowFrom l p) (rowTo l p) w hs hft htl
  have hE := fun w => rends_c l (rowFrom l p + 3) w hs (by omega)
  have hql : firstM l (rowFrom l p) (rowTo l p) ≤ rowTo l p := by unfold firstM; omega
  have hx3 : ((rowFrom l p + 3 : Nat) : Int) = (rowFrom l p : Int) + 3 := by omega
  rw [hx3] at hE
  generalize firstM l (rowFrom l p) (rowTo l p) = q at *
  generalize kindM l p = k at *
  generalize endsM l (rowFrom l p + 3) = en at *
  generalize rowFrom l p = f at *
  generalize rowTo l p = t at *
  have ht3 : (f : Int) + 3 ≤ 1073741827 := by omega
  clear hx3
  by_cases h3 : f + 3 ≤ t
  · have hl3 : (f : Int) + 3 ≤ (l.length : Int) := by omega
    have g3 : decide ((3 : Int) ≤ (t : Int) - (f : Int)) = true := by rw [decide_eq_true_eq]; omega
    rw [decide_eq_true h3, Bool.true_and] at hk
    cases en with
    | true =>
      rw [Bool.true_and] at hk
      cases hm : ((l.drop f).take 3 == [45, 45, 45]) with
      | true =>
        have HK : Hid (k = 3) := Lib.hid (by rw [hk, hm]; rfl)
        clear hk
        go_enter Tryd.func85, Tryd.ntmps85
        go_wp2_with fail
        refine (hR _).mono ?_
        rintro e w1 ⟨rfl, rfl⟩
        go_wp2_with fail
        refine (hE _).mono ?_
        rintro e w1 ⟨rfl, rfl⟩
        go_wp2_with fail
        go_ret
        exact ⟨ret_int (by rw [HK.out]; rfl), rfl⟩
      | false =>
        cases hn : ((l.drop f).take 3 == [46, 46, 46]) with
        | true =>
          have HK : Hid (k = 4) := Lib.hid (by rw [hk, hm, hn]; rfl)
          clear hk
          go_enter Tryd.func85, Tryd.ntmps85
          go_wp2_with fail
          refine (hR _).mono ?_
          rintro e w1 ⟨rfl, rfl⟩
          go_wp2_with fail
          refine (hE _).mono ?_
          rintro e w1 ⟨rfl, rfl⟩
          go_wp2_with fail
          go_ret
          exact ⟨ret_int (by rw [HK.out]; rfl), rfl⟩
        | false =>
          rw [hm, hn, if_neg (by decide), if_neg (by decide)] at hk
          by_cases h0 : q = t
          · have HK : Hid (k = 1) := Lib.hid (by rw [hk, if_pos h0])
            have g0 : ((q : Int) == (t : Int)) = true := by rw [h0]; simp
            clear hk h0
            go_enter Tryd.func85, Tryd.ntmps85
            go_wp2_with fail
            refine (hR _).mono ?_
            rintro e w1 ⟨rfl, rfl⟩
            go_wp2_with fail
            refine (hE _).mono ?_
            rintro e w1 ⟨rfl, rfl⟩
            go_wp2_with fail
            refine (hF _).mono ?_
            rintro e w1 ⟨rfl, rfl⟩
            go_wp2_with fail
            go_ret
            exact ⟨ret_int (by rw [HK.out]; rfl), rfl⟩
          · have g0 : ((q : Int) == (t : Int)) = false := by rw [beq_eq_false_iff_ne]; omega
            have hqt : q < l.length := by omega
            by_cases h35 : byt l q = 35
            · have HK : Hid (k = 2) := Lib.hid (by rw [hk, if_neg h0, if_pos h35])
              have g : ((byt l q : Int) == 35) = true := by rw [h35]; rfl
              clear hk h0 h35
              go_enter Tryd.func85, Tryd.ntmps85
              go_wp2_with fail
              refine (hR _).mono ?_
              rintro e w1 ⟨rfl, rfl⟩
              go_wp2_with fail
              refine (hE _).mono ?_
              rintro e w1 ⟨rfl, rfl⟩
              go_wp2_with fail
              refine (hF _).mono ?_
              rintro e w1 ⟨rfl, rfl⟩
              go_wp2_with fail
              go_ret
              exact ⟨ret_int (by rw [HK.out]; rfl), rfl⟩
            · have HK : Hid (k = 5) := Lib.hid (by rw [hk, if_neg h0, if_neg h35])
              have g : ((byt l q : Int) == 35) = false := by simp; omega
              clear hk h0 h35
              go_enter Tryd.func85, Tryd.ntmps85
              go_wp2_with fail
              refine (hR _).mono ?_
              rintro e w1 ⟨rfl, rfl⟩
              go_wp2_with fail
              refine (hE _).mono ?_
              rintro e w1 ⟨rfl, rfl⟩
              go_wp2_with fail
              refine (hF _).mono ?_
              rintro e w1 ⟨rfl, rfl⟩
              go_wp2_with fail
              go_ret
              exact ⟨ret_int (by rw [HK.out]; rfl), rfl⟩
    | false =>
      rw [Bool.false_and, if_neg (by decide), Bool.false_and, if_neg (by decide)] at hk
      by_cases h0 : q = t
      · have HK : Hid (k = 1) := Lib.hid (by rw [hk, if_pos h0])
        have g0 : ((q : Int) == (t : Int)) = true := by rw [h0]; simp
        clear hk h0
        go_enter Tryd.func85, Tryd.ntmps85
        go_wp2_with fail
        refine (hR _).mono ?_
        rintro e w1 ⟨rfl, rfl⟩
        go_wp2_with fail
        refine (hE _).mono ?_
        rintro e w1 ⟨rfl, rfl⟩
        go_wp2_with fail
        refine (hF _).mono ?_
        rintro e w1 ⟨rfl, rfl⟩
        go_wp2_with fail
        go_ret
        exact ⟨ret_int (by rw [HK.out]; rfl), rfl⟩
      · have g0 : ((q : Int) == (t : Int)) = false := by rw [beq_eq_false_iff_ne]; omega
        have hqt : q < l.length := by omega
        by_cases h35 : byt l q = 35
        · have HK : Hid (k = 2) := Lib.hid (by rw [hk, if_neg h0, if_pos h35])
          have g : ((byt l q : Int) == 35) = true := by rw [h35]; rfl
          clear hk h0 h35
          go_enter Tryd.func85, Tryd.ntmps85
          go_wp2_with fail
          refine (hR _).mono ?_
          rintro e w1 ⟨rfl, rfl⟩
          go_wp2_with fail
          refine (hE _).mono ?_
          rintro e w1 ⟨rfl, rfl⟩
          go_wp2_with fail
          refine (hF _).mono ?_
          rintro e w1 ⟨rfl, rfl⟩
          go_wp2_with fail
          go_ret
          exact ⟨ret_int (by rw [HK.out]; rfl), rfl⟩
        · have HK : Hid (k = 5) := Lib.hid (by rw [hk, if_neg h0, if_neg h35])
          have g : ((byt l q : Int) == 35) = false := by simp; omega
          clear hk h0 h35
          go_enter Tryd.func85, Tryd.ntmps85
          go_wp2_with fail
          refine (hR _).mono ?_
          rintro e w1 ⟨rfl, rfl⟩
          go_wp2_with fail
          refine (hE _).mono ?_
          rintro e w1 ⟨rfl, rfl⟩
          go_wp2_with fail
          refine (hF _).mono ?_
          rintro e w1 ⟨rfl, rfl⟩
          go_wp2_with fail
          go_ret
          exact ⟨ret_int (by rw [HK.out]; rfl), rfl⟩
  · have g3 : decide ((3 : Int) ≤ (t : Int) - (f : Int)) = false := by rw [decide_eq_false_iff_not]; omega
    rw [decide_eq_false h3, Bool.false_and, Bool.false_and, if_neg (by decide), Bool.false_and, if_neg (by decide)] at hk
    by_cases h0 : q = t
    · have HK : Hid (k = 1) := Lib.hid (by rw [hk, if_pos h0])
      have g0 : ((q : Int) == (t : Int)) = true := by rw [h0]; simp
      clear hk h0
      go_enter Tryd.func85, Tryd.ntmps85
      go_wp2_with fail
      refine (hR _).mono ?_
      rintro e w1 ⟨rfl, rfl⟩
      go_wp2_with fail
      refine (hF _).mono ?_
      rintro e w1 ⟨rfl, rfl⟩
      go_wp2_with fail
      go_ret
      exact ⟨ret_int (by rw [HK.out]; rfl), rfl⟩
    · have g0 : ((q : Int) == (t : Int)) = false := by rw [beq_eq_false_iff_ne]; omega
      have hqt : q < l.length := by omega
      by_cases h35 : byt l q = 35
      · have HK : Hid (k = 2) := Lib.hid (by rw [hk, if_neg h0, if_pos h35])
        have g : ((byt l q : Int) == 35) = true := by rw [h35]; rfl
        clear hk h0 h35
        go_enter Tryd.func85, Tryd.ntmps85
        go_wp2_with fail
        refine (hR _).mono ?_
        rintro e w1 ⟨rfl, rfl⟩
        go_wp2_with fail
        refine (hF _).mono ?_
        rintro e w1 ⟨rfl, rfl⟩
        go_wp2_with fail
        go_ret
        exact ⟨ret_int (by rw [HK.out]; rfl), rfl⟩
      · have HK : Hid (k = 5) := Lib.hid (by rw [hk, if_neg h0, if_neg h35])
        have g : ((byt l q : Int) == 35) = false := by simp; omega
        clear hk h0 h35
        go_enter Tryd.func85, Tryd.ntmps85
        go_wp2_with fail
        refine (hR _).mono ?_
        rintro e w1 ⟨rfl, rfl⟩
        go_wp2_with fail
        refine (hF _).mono ?_
        rintro e w1 ⟨rfl, rfl⟩
        go_wp2_with fail
        go_ret
        exact ⟨ret_int (by rw [HK.out]; rfl), rfl⟩
theorem rkind_n (l : List UInt8) (p : Nat) (w : World) (hs : l.length ≤ 1073741824) (hp : p ≤ l.length) :
    Calls Tryd.prog 85 #[.string ⟨l.toArray⟩, .int .i64 p] w fun e w' => e = .returned (.int .i64 (kindM l p)) ∧ w = w' := by
  have h := rkind_c l p w hs
  rw [heldM_nat hp] at h
  exact h
end Go.Proofs.YtobojdkloblfbaaDoor
