/- The walks of package rows: kinds of rows, and how many blank ones stand above. -/
import Derived.Test.YtjfgcbikdibjeaaGreatDoorWRows
namespace Go.Proofs.YtjfgcbikdibjeaaGreatDoor
open Go.RowKit U Go.Proofs

set_option maxRecDepth 100000 in
set_option maxHeartbeats 4000000 in
theorem kind_c (l : List UInt8) (a : Int) (w : World) (hs : l.length ≤ 1073741824) :
    Calls Tryz.prog 112 #[.string ⟨l.toArray⟩, .int .i64 a] w fun e w' => e = .returned (.int .i64 (kindM l (heldM l a))) ∧ w = w' := by
  have hp := heldM_le l a
  have hR := fun w => row_c l a w hs
  generalize heldM l a = p at *
  have hft := from_le_to l p
  have htl := rowTo_le hp
  have hto : rowTo l (rowFrom l p) = rowTo l p := rowTo_from hp
  have hfr := first_row (l := l) (rowFrom l p)
  rw [hto] at hfr
  have hM := fun w => begun_c l 45 (rowFrom l p) w hs (by omega)
  have hD := fun w => begun_c l 46 (rowFrom l p) w hs (by omega)
  have hrow := bare_row l (rowFrom l p) (rowTo l p) (by omega)
  have hB := fun w => bare_c ((l.drop (rowFrom l p)).take (rowTo l p - rowFrom l p)) w (by rw [List.length_take, List.length_drop]; omega)
  rw [hrow] at hB
  have hk : kindM l p = if markM l 45 (rowFrom l p) then 3 else if markM l 46 (rowFrom l p) then 4 else if rowTo l p ≤ rowFrom l p + run whN l (rowFrom l p) then 1 else if byt l (rowFrom l p + run whN l (rowFrom l p)) = 35 then 2 else 5 := by
    unfold kindM kindF
    have hiff : (l.length ≤ rowFrom l p + run whN l (rowFrom l p) ∨ byt l (rowFrom l p + run whN l (rowFrom l p)) = 10) ↔ rowTo l p ≤ rowFrom l p + run whN l (rowFrom l p) := by
      constructor
      · rintro (h | h)
        · omega
        · rcases Nat.lt_or_ge (rowFrom l p + run whN l (rowFrom l p)) (rowTo l p) with h1 | h1
          · rw [← hto] at h1
            exact absurd h (rowTo_in (by omega) h1)
          · exact h1
      · intro h
        rcases Nat.lt_or_ge (rowTo l p) l.length with h1 | h1
        · right
          rw [show rowFrom l p + run whN l (rowFrom l p) = rowTo l p by omega]
          exact rowTo_off h1
        · left; omega
    simp only [hiff]
  have hm0 : rowFrom l p + run whN l (rowFrom l p) < rowTo l p → byt ((l.drop (rowFrom l p + run whN l (rowFrom l p))).take (rowTo l p - (rowFrom l p + run whN l (rowFrom l p)))) 0 = byt l (rowFrom l p + run whN l (rowFrom l p)) := fun h => by
    rw [byt_take _ _ _ (by omega), byt_drop, Nat.add_zero]
  have hml : ((l.drop (rowFrom l p + run whN l (rowFrom l p))).take (rowTo l p - (rowFrom l p + run whN l (rowFrom l p)))).length = rowTo l p - (rowFrom l p + run whN l (rowFrom l p)) := by
    rw [List.length_take, List.length_drop]; omega
  clear hrow hto
  change ∀ w, Calls _ _ _ w fun e w' => e = .returned (.bool (markM l 45 (rowFrom l p))) ∧ w = w' at hM
  change ∀ w, Calls _ _ _ w fun e w' => e = .returned (.bool (markM l 46 (rowFrom l p))) ∧ w = w' at hD
  generalize (l.drop (rowFrom l p + run whN l (rowFrom l p))).take (rowTo l p - (rowFrom l p + run whN l (rowFrom l p))) = m at *
  generalize rowFrom l p + run whN l (rowFrom l p) = q at *
  generalize kindM l p = k at *
  generalize markM l 45 (rowFrom l p) = b1 at *
  generalize markM l 46 (rowFrom l p) = b2 at *
  generalize rowFrom l p = f at *
  generalize rowTo l p = t at *
  cases b1 with
  | true =>
    have HK : Hid (k = 3) := Lib.hid (by rw [hk]; rfl)
    clear hk hm0 hml
    go_enter Tryz.func112, Tryz.ntmps112
    go_wp2_with fail
    refine (hR _).mono ?_
    rintro e w1 ⟨rfl, rfl⟩
    go_wp2_with fail
    refine (hB _).mono ?_
    rintro e w1 ⟨rfl, rfl⟩
    go_wp2_with fail
    refine (hM _).mono ?_
    rintro e w1 ⟨rfl, rfl⟩
    go_wp2_with fail
    go_ret
    exact ⟨ret_int (by rw [HK.out]; rfl), rfl⟩
  | false =>
    cases b2 with
    | true =>
      have HK : Hid (k = 4) := Lib.hid (by rw [hk]; rfl)
      clear hk hm0 hml
      go_enter Tryz.func112, Tryz.ntmps112
      go_wp2_with fail
      refine (hR _).mono ?_
      rintro e w1 ⟨rfl, rfl⟩
      go_wp2_with fail
      refine (hB _).mono ?_
      rintro e w1 ⟨rfl, rfl⟩
      go_wp2_with fail
      refine (hM _).mono ?_
      rintro e w1 ⟨rfl, rfl⟩
      go_wp2_with fail
      refine (hD _).mono ?_
      rintro e w1 ⟨rfl, rfl⟩
      go_wp2_with fail
      go_ret
      exact ⟨ret_int (by rw [HK.out]; rfl), rfl⟩
    | false =>
      by_cases h0 : t ≤ q
      · have HK : Hid (k = 1) := Lib.hid (by rw [hk, if_pos h0]; rfl)
        obtain rfl : m = [] := List.eq_nil_of_length_eq_zero (by omega)
        clear hk hm0 hml
        go_enter Tryz.func112, Tryz.ntmps112
        go_wp2_with fail
        refine (hR _).mono ?_
        rintro e w1 ⟨rfl, rfl⟩
        go_wp2_with fail
        refine (hB _).mono ?_
        rintro e w1 ⟨rfl, rfl⟩
        go_wp2_with fail
        refine (hM _).mono ?_
        rintro e w1 ⟨rfl, rfl⟩
        go_wp2_with fail
        refine (hD _).mono ?_
        rintro e w1 ⟨rfl, rfl⟩
        go_wp2_with fail
        go_ret
        exact ⟨ret_int (by rw [HK.out]; rfl), rfl⟩
      · have hmp : 0 < m.length := by omega
        have hemp : m.isEmpty = false := by cases m with | nil => simp at hmp | cons b t => rfl
        have h00 := hm0 (by omega)
        rw [← h00] at hk
        by_cases h35 : byt m 0 = 35
        · have HK : Hid (k = 2) := Lib.hid (by rw [hk, if_neg h0, if_pos h35]; rfl)
          have g : ((byt m 0 : Int) == 35) = true := by rw [h35]; rfl
          clear hk hm0 hml h00 h35
          go_enter Tryz.func112, Tryz.ntmps112
          go_wp2_with fail
          refine (hR _).mono ?_
          rintro e w1 ⟨rfl, rfl⟩
          go_wp2_with fail
          refine (hB _).mono ?_
          rintro e w1 ⟨rfl, rfl⟩
          go_wp2_with fail
          refine (hM _).mono ?_
          rintro e w1 ⟨rfl, rfl⟩
          go_wp2_with fail
          refine (hD _).mono ?_
          rintro e w1 ⟨rfl, rfl⟩
          go_wp2_with fail
          go_ret
          exact ⟨ret_int (by rw [HK.out]; rfl), rfl⟩
        · have HK : Hid (k = 5) := Lib.hid (by rw [hk, if_neg h0, if_neg h35]; rfl)
          have g : ((byt m 0 : Int) == 35) = false := by simp; omega
          clear hk hm0 hml h00 h35
          go_enter Tryz.func112, Tryz.ntmps112
          go_wp2_with fail
          refine (hR _).mono ?_
          rintro e w1 ⟨rfl, rfl⟩
          go_wp2_with fail
          refine (hB _).mono ?_
          rintro e w1 ⟨rfl, rfl⟩
          go_wp2_with fail
          refine (hM _).mono ?_
          rintro e w1 ⟨rfl, rfl⟩
          go_wp2_with fail
          refine (hD _).mono ?_
          rintro e w1 ⟨rfl, rfl⟩
          go_wp2_with fail
          go_ret
          exact ⟨ret_int (by rw [HK.out]; rfl), rfl⟩
theorem kind_n (l : List UInt8) (p : Nat) (w : World) (hs : l.length ≤ 1073741824) (hp : p ≤ l.length) :
    Calls Tryz.prog 112 #[.string ⟨l.toArray⟩, .int .i64 p] w fun e w' => e = .returned (.int .i64 (kindM l p)) ∧ w = w' := by
  have h := kind_c l p w hs
  rw [heldM_nat hp] at h
  exact h
end Go.Proofs.YtjfgcbikdibjeaaGreatDoor
