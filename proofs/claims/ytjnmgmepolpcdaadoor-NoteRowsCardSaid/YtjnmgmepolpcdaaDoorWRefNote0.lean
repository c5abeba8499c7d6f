/- The walks of the document's answer of chapter 15: its parts. -/
import Derived.Test.YtjnmgmepolpcdaaDoorWRefKind
namespace Go.Proofs.YtjnmgmepolpcdaaDoor
open Go.RowKit U Go.Proofs

set_option maxRecDepth 100000 in
set_option maxHeartbeats 4000000 in
theorem rabove_n (l : List UInt8) (p : Nat) (w : World) (hs : l.length ≤ 1073741824) (hp : p ≤ l.length) :
    Calls Tryd.prog 100 #[.string ⟨l.toArray⟩, .int .i64 p] w fun e w' => e = .returned (.int .i64 (aboveM l p)) ∧ w = w' := by
  have hR := fun w => rrow_n l p w hs hp
  have hH := fun w => rheld_c l p w hs
  rw [heldM_nat hp] at hH
  have hf := rowFrom_le l p
  have hF := fun w => first_c l (rowFrom l p) p w hs hf hp
  have ha : aboveM l p = if firstM l (rowFrom l p) p < p then 0 else aboveR l (rowFrom l p) := rfl
  generalize firstM l (rowFrom l p) p = q at *
  generalize aboveM l p = r at *
  generalize rowFrom l p = f at *
  by_cases h0 : q < p
  · have HA : Hid (r = 0) := Lib.hid (by rw [ha, if_pos h0])
    clear ha
    generalize rowTo l p = t at *
    go_enter Tryd.func100, Tryd.ntmps100
    go_wp2_with fail
    refine (hH _).mono ?_
    rintro e w1 ⟨rfl, rfl⟩
    go_wp2_with fail
    refine (hR _).mono ?_
    rintro e w1 ⟨rfl, rfl⟩
    go_wp2_with fail
    refine (hF _).mono ?_
    rintro e w1 ⟨rfl, rfl⟩
    go_wp2_with fail
    go_ret
    exact ⟨ret_int (by rw [HA.out]; rfl), rfl⟩
  · have HA : Hid (r = aboveR l f) := Lib.hid (by rw [ha, if_neg h0])
    clear ha
    generalize rowTo l p = t at *
    go_enter Tryd.func100, Tryd.ntmps100
    go_wp2_with fail
    refine (hH _).mono ?_
    rintro e w1 ⟨rfl, rfl⟩
    go_wp2_with fail
    refine (hR _).mono ?_
    rintro e w1 ⟨rfl, rfl⟩
    go_wp2_with fail
    refine (hF _).mono ?_
    rintro e w1 ⟨rfl, rfl⟩
    go_wp2_with fail
    go_loop [5, 7] (fun x y => ∃ g k : Nat, g ≤ f ∧ k ≤ f ∧ x = .int .i64 g ∧ y = .int .i64 k ∧ k + g ≤ f ∧ Hid (k + aboveR l g = aboveR l f)) (fun x _ => (intOf x).toNat)
    case atStart => exact ⟨f, 0, Nat.le_refl _, Nat.zero_le _, rfl, rfl, by omega, Lib.hid (by omega)⟩
    case round =>
      obtain ⟨g, k, hg, hk, rfl, rfl, hkg, HR⟩ := hrel
      by_cases hg0 : 1 ≤ g
      · have hst := aboveR_step (l := l) (f := g) (by omega)
        have hle := rowFrom_le l (g - 1)
        have hrw := fun w => rrow_n l (g - 1) w hs (by omega)
        have hc1 : ((g - 1 : Nat) : Int) = (g : Int) - 1 := by omega
        rw [hc1] at hrw
        have hkd := fun w => rkind_n l (rowFrom l (g - 1)) w hs (by omega)
        have hkk : kindM l (rowFrom l (g - 1)) = kindM l (g - 1) := by unfold kindM; rw [rowFrom_self]
        rw [hkk] at hkd
        generalize rowTo l (g - 1) = t1 at *
        generalize kindM l (g - 1) = kd at *
        generalize rowFrom l (g - 1) = g1 at *
        clear hc1 hkk
        by_cases hk1 : kd = 1
        · have HR2 : Hid (k + 1 + aboveR l g1 = aboveR l f) := Lib.hid (by rw [← HR.out, hst, if_pos hk1]; omega)
          subst hk1
          clear hst
          go_wp2_with fail
          refine (hrw _).mono ?_
          rintro e w1 ⟨rfl, rfl⟩
          go_wp2_with fail
          refine (hkd _).mono ?_
          rintro e w1 ⟨rfl, rfl⟩
          go_wp2_with fail
          go_round
          case rel => exact ⟨g1, k + 1, by omega, by omega, rfl, by go_num, by omega, HR2⟩
          case measure => simp [intOf]; omega
        · have HR2 : Hid (r = k) := Lib.hid (by rw [HA.out, ← HR.out, hst, if_neg hk1]; rfl)
          have gk : ((kd : Int) != 1) = true := by simp; omega
          clear hst hk1
          go_wp2_with fail
          refine (hrw _).mono ?_
          rintro e w1 ⟨rfl, rfl⟩
          go_wp2_with fail
          refine (hkd _).mono ?_
          rintro e w1 ⟨rfl, rfl⟩
          go_wp2_with fail
          go_ret
          exact ⟨ret_int (by rw [HR2.out]), rfl⟩
      · obtain rfl : g = 0 := by omega
        have HR2 : Hid (r = k) := Lib.hid (by rw [HA.out, ← HR.out]; rfl)
        go_wp2_with fail
        go_ret
        exact ⟨ret_int (by rw [HR2.out]), rfl⟩
set_option maxRecDepth 100000 in
set_option maxHeartbeats 4000000 in
theorem tabin_c (l : List UInt8) (f t : Nat) (w : World) (hs : l.length ≤ 1073741824) (hft : f + run whN l f ≤ t) (ht : t ≤ l.length) :
    Calls Tryd.prog 96 #[.string ⟨l.toArray⟩, .int .i64 f, .int .i64 t] w fun e w' => e = .returned (.int .i64 (tabF l (run whN l f) f)) ∧ w = w' := by
  go_enter Tryd.func96, Tryd.ntmps96
  go_wp2_with fail
  go_loop [7] (fun x => ∃ q : Nat, q + run whN l q ≤ t ∧ x = .int .i64 q ∧ Hid (tabF l (run whN l q) q = tabF l (run whN l f) f)) (fun x => t - (intOf x).toNat)
  case atStart => exact ⟨f, hft, rfl, Lib.hid rfl⟩
  case round =>
    obtain ⟨q, hq, rfl, HQ⟩ := hrel
    by_cases hlt : q < t
    · have hql : q < l.length := by omega
      have hW := fun w => rwhite_c (byt l q) w (byt_lt l q)
      cases hw : whN (byt l q) with
      | true =>
        rw [hw] at hW
        have hst := run_step (P := whN) hql hw
        by_cases h9 : byt l q = 9
        · have HR : Hid (tabF l (run whN l f) f = q) := Lib.hid (by rw [← HQ.out, hst, tabF, if_pos h9])
          have g : ((byt l q : Int) == 9) = true := by rw [h9]; rfl
          clear hw h9 hst
          go_wp2_with fail
          refine (hW _).mono ?_
          rintro e w1 ⟨rfl, rfl⟩
          go_wp2_with fail
          go_ret
          exact ⟨ret_int (by rw [HR.out]), rfl⟩
        · have HR : Hid (tabF l (run whN l (q + 1)) (q + 1) = tabF l (run whN l f) f) := Lib.hid (by rw [← HQ.out, hst, tabF, if_neg h9])
          have g : ((byt l q : Int) == 9) = false := by simp; omega
          have hq' : q + 1 + run whN l (q + 1) ≤ t := by omega
          clear hw h9 hst
          go_wp2_with fail
          refine (hW _).mono ?_
          rintro e w1 ⟨rfl, rfl⟩
          go_wp2_with fail
          go_round
          case rel => exact ⟨q + 1, hq', by go_num, HR⟩
          case measure => simp [intOf]; omega
      | false =>
        rw [hw] at hW
        have HR : Hid (tabF l (run whN l f) f = -1) := Lib.hid (by rw [← HQ.out, run_stop hw]; rfl)
        clear hw
        go_wp2_with fail
        refine (hW _).mono ?_
        rintro e w1 ⟨rfl, rfl⟩
        go_wp2_with fail
        go_ret
        exact ⟨ret_int (by rw [HR.out]), rfl⟩
    · have HR : Hid (tabF l (run whN l f) f = -1) := Lib.hid (by rw [← HQ.out, show run whN l q = 0 by omega]; rfl)
      go_wp2_with fail
      go_ret
      exact ⟨ret_int (by rw [HR.out]), rfl⟩
set_option maxRecDepth 100000 in
set_option maxHeartbeats 4000000 in
theorem rnoteAt_c (l : List UInt8) (p : Nat) (w : World) (hs : l.length ≤ 1073741824) (hp : p < l.length) :
    Calls Tryd.prog 99 #[.string ⟨l.toArray⟩, .int .i64 p] w fun e w' => e = .returned (.bool (isNote l p)) ∧ w = w' := by
  by_cases h35 : byt l p = 35
  · have g : ((byt l p : Int) == 35) = true := by rw [h35]; rfl
    by_cases h0 : p = 0
    · have HR : Hid (isNote l p = true) := Lib.hid (by unfold isNote; rw [h35, h0]; rfl)
      subst h0
      clear h35
      go_enter Tryd.func99, Tryd.ntmps99
      go_wp2_with fail
      go_ret
      exact ⟨ret_bool (by rw [HR.out]), rfl⟩
    · obtain ⟨k, rfl⟩ : ∃ k, p = k + 1 := ⟨p - 1, by omega⟩
      have hix : (((k + 1 : Nat) : Int) - 1).toNat = k := by omega
      have hkl : k < l.length := by omega
      have hn : isNote l (k + 1) = (whN (byt l k) || decide (byt l k = 10)) := by
        unfold isNote endsM
        rw [h35]
        simp; omega
      have hW := fun w => rwhite_c (byt l k) w (byt_lt l k)
      cases hw : whN (byt l k) with
      | true =>
        rw [hw] at hW hn
        have HR : Hid (isNote l (k + 1) = true) := Lib.hid (by rw [hn]; rfl)
        clear h35 h0 hn hw
        go_enter Tryd.func99, Tryd.ntmps99
        go_wp2_with fail
        refine (hW _).mono ?_
        rintro e w1 ⟨rfl, rfl⟩
        go_wp2_with fail
        go_ret
        exact ⟨ret_bool (by rw [HR.out]), rfl⟩
      | false =>
        rw [hw] at hW hn
        have HR : Hid (isNote l (k + 1) = decide (byt l k = 10)) := Lib.hid (by rw [hn]; rfl)
        clear h35 h0 hn hw
        go_enter Tryd.func99, Tryd.ntmps99
        go_wp2_with fail
        refine (hW _).mono ?_
        rintro e w1 ⟨rfl, rfl⟩
        go_wp2_with fail
        go_ret
        exact ⟨ret_bool (by rw [HR.out, Bool.eq_iff_iff]; simp; try omega), rfl⟩
  · have g : ((byt l p : Int) == 35) = false := by simp; omega
    have HR : Hid (isNote l p = false) := Lib.hid (by unfold isNote; rw [decide_eq_false h35]; rfl)
    clear h35
    go_enter Tryd.func99, Tryd.ntmps99
    go_wp2_with fail
    go_ret
    exact ⟨ret_bool (by rw [HR.out]), rfl⟩
end Go.Proofs.YtjnmgmepolpcdaaDoor
