/- The walks of the document's answer of chapter 7. -/
import Derived.Test.YtjfgcbikdibjeaaGreatDoorWRows2
import Derived.Test.YtjfgcbikdibjeaaGreatDoorPAllB
import Derived.Test.YtjfgcbikdibjeaaGreatDoorWRefSign
namespace Go.Proofs.YtjfgcbikdibjeaaGreatDoor
open Go.RowKit U Go.Proofs

attribute [local go_sem] ite_min' ite_max'
set_option maxRecDepth 100000 in
set_option maxHeartbeats 2000000 in
theorem rends_c (l : List UInt8) (p : Nat) (w : World) (_hs : l.length ≤ 1073741824) (hp : p ≤ 2147483647) :
    Calls Tryz.prog 86 #[.string ⟨l.toArray⟩, .int .i64 p] w fun e w' => e = .returned (.bool (endsM l p)) ∧ w = w' := by
  by_cases hlt : p < l.length
  · have hW := fun w => rwhite_c (byt l p) w (byt_lt l p)
    have he : endsM l p = (whN (byt l p) || decide (byt l p = 10)) := by unfold endsM; rw [decide_eq_false (by omega)]; rfl
    cases hw : whN (byt l p) with
    | true =>
      rw [hw] at hW he
      have HE : Hid (endsM l p = true) := Lib.hid (by rw [he]; rfl)
      clear hw he
      go_enter Tryz.func86, Tryz.ntmps86
      go_wp2_with fail
      refine (hW _).mono ?_
      rintro e w1 ⟨rfl, rfl⟩
      go_wp2_with fail
      go_ret
      exact ⟨ret_bool (by rw [HE.out]), rfl⟩
    | false =>
      rw [hw] at hW he
      have HE : Hid (endsM l p = decide (byt l p = 10)) := Lib.hid (by rw [he]; rfl)
      clear hw he
      go_enter Tryz.func86, Tryz.ntmps86
      go_wp2_with fail
      refine (hW _).mono ?_
      rintro e w1 ⟨rfl, rfl⟩
      go_wp2_with fail
      go_ret
      exact ⟨ret_bool (by rw [HE.out, Bool.eq_iff_iff]; simp; omega), rfl⟩
  · have HE : Hid (endsM l p = true) := Lib.hid (by unfold endsM; rw [decide_eq_true (by omega)]; rfl)
    go_enter Tryz.func86, Tryz.ntmps86
    go_wp2_with fail
    go_ret
    exact ⟨ret_bool (by rw [HE.out]), rfl⟩
theorem firstM_stop {l : List UInt8} {f t : Nat} (h : t ≤ f ∨ whN (byt l f) = false) (hft : f ≤ t) : firstM l f t = f := by
  unfold firstM
  rcases h with h | h
  · omega
  · rw [run_stop h]; omega
theorem firstM_step {l : List UInt8} {f t : Nat} (_h : f < t) (hl : f < l.length) (hw : whN (byt l f) = true) : firstM l (f + 1) t = firstM l f t := by
  unfold firstM
  rw [run_step hl hw]; omega
set_option maxRecDepth 100000 in
set_option maxHeartbeats 2000000 in
theorem first_c (l : List UInt8) (f t : Nat) (w : World) (hs : l.length ≤ 1073741824) (hft : f ≤ t) (ht : t ≤ l.length) :
    Calls Tryz.prog 56 #[.string ⟨l.toArray⟩, .int .i64 f, .int .i64 t] w fun e w' => e = .returned (.int .i64 (firstM l f t)) ∧ w = w' := by
  go_enter Tryz.func56, Tryz.ntmps56
  go_wp2_with fail
  go_loop [1] (fun x => ∃ q : Nat, q ≤ t ∧ x = .int .i64 q ∧ Hid (firstM l q t = firstM l f t)) (fun x => t - (intOf x).toNat)
  case atStart => exact ⟨f, hft, rfl, Lib.hid rfl⟩
  case round =>
    obtain ⟨q, hq, rfl, HQ⟩ := hrel
    by_cases hlt : q < t
    · have hW := fun w => rwhite_c (byt l q) w (byt_lt l q)
      have hql : q < l.length := by omega
      cases hw : whN (byt l q) with
      | true =>
        rw [hw] at hW
        have HR : Hid (firstM l (q + 1) t = firstM l f t) := Lib.hid (by rw [← HQ.out, firstM_step hlt hql hw])
        clear hw
        go_wp2_with fail
        refine (hW _).mono ?_
        rintro e w1 ⟨rfl, rfl⟩
        go_wp2_with fail
        go_round
        case rel => exact ⟨q + 1, by omega, by go_num, HR⟩
        case measure => simp [intOf]; omega
      | false =>
        rw [hw] at hW
        have HR : Hid (firstM l f t = q) := Lib.hid (by rw [← HQ.out, firstM_stop (.inr hw) hq])
        clear hw
        go_wp2_with fail
        refine (hW _).mono ?_
        rintro e w1 ⟨rfl, rfl⟩
        go_wp2_with fail
        go_ret
        exact ⟨ret_int (by rw [HR.out]), rfl⟩
    · have HR : Hid (firstM l f t = q) := Lib.hid (by rw [← HQ.out, firstM_stop (.inl (by omega)) hq])
      go_wp2_with fail
      go_ret
      exact ⟨ret_int (by rw [HR.out]), rfl⟩
theorem beq3 (l : List UInt8) (f : Nat) (c : UInt8) (h : f + 3 ≤ l.length) : (((l.drop f).take 3) == [c, c, c]) = decide (byt l f = c.toNat ∧ byt l (f + 1) = c.toNat ∧ byt l (f + 2) = c.toNat) := by
  rw [List.drop_eq_getElem_cons (by omega), List.drop_eq_getElem_cons (by omega), List.drop_eq_getElem_cons (by omega)]
  simp only [List.take_succ_cons, List.take_zero]
  have hx : ∀ x : UInt8, (x == c) = decide (x.toNat = c.toNat) := by
    intro x
    by_cases h : x = c
    · subst h; simp
    · have : x.toNat ≠ c.toNat := fun e => h (UInt8.toNat.inj e)
      simp [h, this]
  show ((l[f]'_ == c) && ((l[f + 1]'_ == c) && ((l[f + 2]'_ == c) && true))) = _
  rw [hx, hx, hx, byt_get, byt_get, byt_get, Bool.eq_iff_iff]
  simp
/-- The kind of a row, as the document says it. -/
theorem kind_ref (l : List UInt8) (p : Nat) (hp : p ≤ l.length) : kindM l p =
    if decide (rowFrom l p + 3 ≤ rowTo l p) && endsM l (rowFrom l p + 3) && ((l.drop (rowFrom l p)).take 3 == [45, 45, 45]) then 3
    else if decide (rowFrom l p + 3 ≤ rowTo l p) && endsM l (rowFrom l p + 3) && ((l.drop (rowFrom l p)).take 3 == [46, 46, 46]) then 4
    else if firstM l (rowFrom l p) (rowTo l p) = rowTo l p then 1 else if byt l (firstM l (rowFrom l p) (rowTo l p)) = 35 then 2 else 5 := by
  have hto : rowTo l (rowFrom l p) = rowTo l p := rowTo_from hp
  have hfr := first_row (l := l) (rowFrom l p)
  rw [hto] at hfr
  have hfm : firstM l (rowFrom l p) (rowTo l p) = rowFrom l p + run whN l (rowFrom l p) := by unfold firstM; omega
  rw [hfm]
  have hm : ∀ c : UInt8, c.toNat ≠ 10 → markM l c.toNat (rowFrom l p) = (decide (rowFrom l p + 3 ≤ rowTo l p) && endsM l (rowFrom l p + 3) && ((l.drop (rowFrom l p)).take 3 == [c, c, c])) := by
    intro c hc
    have htl := rowTo_le hp
    unfold markM
    by_cases h3 : rowFrom l p + 3 ≤ rowTo l p
    · rw [beq3 l _ c (by omega), decide_eq_true h3, Bool.true_and, Bool.and_comm]
      congr 1
      rw [Bool.eq_iff_iff]
      simp
      omega
    · rw [decide_eq_false h3, Bool.false_and, Bool.false_and, Bool.and_eq_false_iff]
      left
      rw [decide_eq_false_iff_not]
      rintro ⟨h1, h2, h4, h5⟩
      have hlt : rowTo l (rowFrom l p) < l.length := by omega
      have h10 := rowTo_off hlt
      rw [hto] at h10 hlt
      have hge := from_le_to l p
      have : rowTo l p = rowFrom l p ∨ rowTo l p = rowFrom l p + 1 ∨ rowTo l p = rowFrom l p + 2 := by omega
      rcases this with h | h | h <;> rw [h] at h10 <;> omega
  have h45 := hm 45 (by decide)
  have h46 := hm 46 (by decide)
  change markM l 45 _ = _ at h45
  change markM l 46 _ = _ at h46
  unfold kindM kindF
  rw [h45, h46]
  have hiff : (l.length ≤ rowFrom l p + run whN l (rowFrom l p) ∨ byt l (rowFrom l p + run whN l (rowFrom l p)) = 10) ↔ rowFrom l p + run whN l (rowFrom l p) = rowTo l p := by
    constructor
    · rintro (h | h)
      · have := rowTo_le hp; omega
      · rcases Nat.lt_or_ge (rowFrom l p + run whN l (rowFrom l p)) (rowTo l p) with h1 | h1
        · rw [← hto] at h1
          exact absurd h (rowTo_in (by omega) h1)
        · omega
    · intro h
      rcases Nat.lt_or_ge (rowTo l p) l.length with h1 | h1
      · right
        rw [h]
        rw [← hto] at h1 ⊢
        exact rowTo_off h1
      · left; omega
  simp only [hiff]
end Go.Proofs.YtjfgcbikdibjeaaGreatDoor
