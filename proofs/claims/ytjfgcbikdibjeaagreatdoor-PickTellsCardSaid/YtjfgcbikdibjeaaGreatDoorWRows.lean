/- The walks of package rows. -/
import Derived.Test.YtjfgcbikdibjeaaGreatDoorWSign
import Derived.Test.YtjfgcbikdibjeaaGreatDoorPAllA
import Derived.Test.YtjfgcbikdibjeaaGreatDoorShelf
namespace Go.Proofs.YtjfgcbikdibjeaaGreatDoor
open Go.RowKit U Go.Proofs

theorem ite_min' (a b : Int) : (if b < a then b else a) = min a b := by omega
theorem ite_max' (a b : Int) : (if a < b then b else a) = max a b := by omega
attribute [local go_sem] ite_min' ite_max'
set_option maxRecDepth 100000 in
set_option maxHeartbeats 1000000 in
theorem rowsHeld_c (l : List UInt8) (a : Int) (w : World) (hs : l.length ≤ 1073741824) :
    Calls Tryz.prog 125 #[.string ⟨l.toArray⟩, .int .i64 a] w fun e w' => e = .returned (.int .i64 (heldM l a)) ∧ w = w' := by
  have hn : (heldM l a : Int) = min (max a 0) (l.length : Int) := by unfold heldM; omega
  generalize heldM l a = n at *
  have HN := Lib.hid hn
  clear hn
  go_enter Tryz.func125, Tryz.ntmps125
  go_wp2_with fail
  go_ret
  exact ⟨ret_int (by rw [HN.out]), rfl⟩
set_option maxRecDepth 100000 in
set_option maxHeartbeats 2000000 in
theorem row_c (l : List UInt8) (a : Int) (w : World) (hs : l.length ≤ 1073741824) :
    Calls Tryz.prog 81 #[.string ⟨l.toArray⟩, .int .i64 a] w fun e w' => e = .returned (.tuple #[.int .i64 (rowFrom l (heldM l a)), .int .i64 (rowTo l (heldM l a))]) ∧ w = w' := by
  have hp := heldM_le l a
  have hH := fun w => rowsHeld_c l a w hs
  generalize heldM l a = p at *
  have h1 := last_from hp
  have h2 := index_to hp
  have hL := fun w => Tryz.strings_LastIndexByte ⟨(l.take p).toArray⟩ 10 (by rw [size_mk, List.length_take]; omega) w
  have hI := fun w => Tryz.strings_IndexByte ⟨(l.drop p).toArray⟩ 10 w
  have hf := rowFrom_le l p
  have ht := rowTo_le hp
  have hr : rowTo l p = p + run notFeed l p := rfl
  rw [h1] at hL
  rw [show Lib.indexByte (⟨(l.drop p).toArray⟩ : ByteArray).data.toList (Int.toNat 10).toUInt8 = Lib.indexByte (l.drop p) 10 from rfl, h2] at hI
  clear h1 h2
  generalize rowFrom l p = f at *
  generalize run notFeed l p = n at *
  generalize rowTo l p = t at *
  have e1 : ((f : Int) - 1) + 1 = f := by omega
  by_cases hlt : t < l.length
  · rw [if_pos hlt] at hI
    have hpn : (p : Int) + n ≤ l.length := by omega
    have HR := Lib.hid hr
    have E1 := Lib.hid e1
    clear hr e1
    go_enter Tryz.func81, Tryz.ntmps81
    go_wp2_with fail
    refine (hH _).mono ?_
    rintro e w1 ⟨rfl, rfl⟩
    go_wp2_with fail
    refine (hL _).mono ?_
    rintro e w1 ⟨rfl, rfl⟩
    go_wp2_with fail
    refine (hI _).mono ?_
    rintro e w1 ⟨rfl, rfl⟩
    go_wp2_with fail
    go_ret2
    exact ⟨ret_ll (by omega) (by rw [HR.out]; omega), rfl⟩
  · rw [if_neg hlt] at hI
    have HR := Lib.hid hr
    have E1 := Lib.hid e1
    clear hr e1
    go_enter Tryz.func81, Tryz.ntmps81
    go_wp2_with fail
    refine (hH _).mono ?_
    rintro e w1 ⟨rfl, rfl⟩
    go_wp2_with fail
    refine (hL _).mono ?_
    rintro e w1 ⟨rfl, rfl⟩
    go_wp2_with fail
    refine (hI _).mono ?_
    rintro e w1 ⟨rfl, rfl⟩
    go_wp2_with fail
    go_ret2
    exact ⟨ret_ll (by omega) (by omega), rfl⟩
theorem row_n (l : List UInt8) (p : Nat) (w : World) (hs : l.length ≤ 1073741824) (hp : p ≤ l.length) :
    Calls Tryz.prog 81 #[.string ⟨l.toArray⟩, .int .i64 p] w fun e w' => e = .returned (.tuple #[.int .i64 (rowFrom l p), .int .i64 (rowTo l p)]) ∧ w = w' := by
  have h := row_c l p w hs
  rw [heldM_nat hp] at h
  exact h
set_option maxRecDepth 100000 in
set_option maxHeartbeats 2000000 in
theorem ends_c (l : List UInt8) (p : Nat) (w : World) (_hs : l.length ≤ 1073741824) (hp : p ≤ 2147483647) :
    Calls Tryz.prog 79 #[.string ⟨l.toArray⟩, .int .i64 p] w fun e w' => e = .returned (.bool (endsM l p)) ∧ w = w' := by
  by_cases hlt : p < l.length
  · have hW := fun w => white_c (byt l p) w (byt_lt l p)
    have he : endsM l p = (whN (byt l p) || decide (byt l p = 10)) := by unfold endsM; rw [decide_eq_false (by omega)]; rfl
    cases hw : whN (byt l p) with
    | true =>
      rw [hw] at hW he
      have HE : Hid (endsM l p = true) := Lib.hid (by rw [he]; rfl)
      clear hw he
      go_enter Tryz.func79, Tryz.ntmps79
      go_wp2_with fail
      refine (hW _).mono ?_
      rintro e w1 ⟨rfl, rfl⟩
      go_wp2_with fail
      go_ret
      exact ⟨ret_bool (by rw [HE.out]), rfl⟩
    | false =>
      rw [hw] at hW he
      have HE : Hid (endsM l p = decide (byt l p = 10)) := Lib.hid (by rw [he]; rfl)
      clear hw he
      go_enter Tryz.func79, Tryz.ntmps79
      go_wp2_with fail
      refine (hW _).mono ?_
      rintro e w1 ⟨rfl, rfl⟩
      go_wp2_with fail
      go_ret
      exact ⟨ret_bool (by rw [HE.out, Bool.eq_iff_iff]; simp; omega), rfl⟩
  · have HE : Hid (endsM l p = true) := Lib.hid (by unfold endsM; rw [decide_eq_true (by omega)]; rfl)
    go_enter Tryz.func79, Tryz.ntmps79
    go_wp2_with fail
    go_ret
    exact ⟨ret_bool (by rw [HE.out]), rfl⟩
set_option maxRecDepth 100000 in
set_option maxHeartbeats 2000000 in
theorem in_c (l : List UInt8) (a : Int) (w : World) (hs : l.length ≤ 1073741824) :
    Calls Tryz.prog 113 #[.string ⟨l.toArray⟩, .int .i64 a] w fun e w' => e = .returned (.int .i64 (inM l (heldM l a))) ∧ w = w' := by
  have hp := heldM_le l a
  have hR := fun w => row_c l a w hs
  generalize heldM l a = p at *
  have hi := in_le hp
  have hft := from_le_to l p
  have htl := rowTo_le hp
  have hin : inM l p = run blankN l (rowFrom l p) := rfl
  have hto : rowTo l (rowFrom l p) = rowTo l p := rowTo_from hp
  generalize inM l p = n at *
  generalize rowFrom l p = f at *
  have hoff : rowTo l p < l.length → byt l (rowTo l p) = 10 := fun h => rowTo_off h
  generalize rowTo l p = t at *
  have HI := Lib.hid hin
  have HO := Lib.hid hoff
  clear hin hto hoff
  go_enter Tryz.func113, Tryz.ntmps113
  go_wp2_with fail
  refine (hR _).mono ?_
  rintro e w1 ⟨rfl, rfl⟩
  go_wp2_with fail
  go_loop [7, 17] (fun _ i => ∃ k : Nat, k ≤ n ∧ i = .int .i64 k) (fun _ i => t - f - (intOf i).toNat)
  case atStart => exact ⟨0, Nat.zero_le _, rfl⟩
  case round =>
    obtain ⟨k, hk, rfl⟩ := hrel
    by_cases hlt : f + k < t
    · have hbd : (f : Int) + k < l.length := by omega
      have hx : ((f : Int) + k).toNat = f + k := by omega
      by_cases hkn : k < n
      · have hb : byt l (f + k) = 32 := by
          have := run_all (P := blankN) (l := l) (f + k) f (by omega) (by rw [← HI.out]; omega)
          simpa [blankN] using this
        have g : ((byt l (f + k) : Int) != 32) = false := by rw [hb]; rfl
        clear hb
        go_wp2_with fail
        go_round
        case rel => exact ⟨k + 1, by omega, by go_num⟩
        case measure => simp [intOf]; omega
      · obtain rfl : k = n := by omega
        have hb : byt l (f + k) ≠ 32 := by
          have := run_off (P := blankN) (l := l) _ f rfl (by rw [← HI.out]; omega)
          rw [← HI.out] at this
          simpa [blankN] using this
        have g : ((byt l (f + k) : Int) != 32) = true := by simp; omega
        clear hb
        go_wp2_with fail
        go_ret
        exact ⟨rfl, rfl⟩
    · obtain rfl : k = n := by omega
      go_wp2_with fail
      go_ret
      exact ⟨ret_int (by omega), rfl⟩
theorem in_n (l : List UInt8) (p : Nat) (w : World) (hs : l.length ≤ 1073741824) (hp : p ≤ l.length) :
    Calls Tryz.prog 113 #[.string ⟨l.toArray⟩, .int .i64 p] w fun e w' => e = .returned (.int .i64 (inM l p)) ∧ w = w' := by
  have h := in_c l p w hs
  rw [heldM_nat hp] at h
  exact h
theorem pre3 (m : List UInt8) (c : UInt8) : Lib.hasPrefix m [c, c, c] = decide (3 ≤ m.length ∧ byt m 0 = c.toNat ∧ byt m 1 = c.toNat ∧ byt m 2 = c.toNat) := by
  unfold Lib.hasPrefix
  rcases m with _ | ⟨a, _ | ⟨b, _ | ⟨d, t⟩⟩⟩
  · rfl
  · simp [List.isPrefixOf]
  · simp [List.isPrefixOf]
  · have hx : ∀ x : UInt8, (c == x) = decide (x.toNat = c.toNat) := by
      intro x
      by_cases h : c = x
      · subst h; simp
      · have : x.toNat ≠ c.toNat := fun e => h (UInt8.toNat.inj e).symm
        simp [h, this]
    simp only [List.isPrefixOf, hx, byt_succ, byt_zero, List.length_cons]
    rw [Bool.eq_iff_iff]
    simp
set_option maxRecDepth 100000 in
set_option maxHeartbeats 2000000 in
theorem begun_c (l : List UInt8) (c : UInt8) (f : Nat) (w : World) (hs : l.length ≤ 1073741824) (hf : f ≤ l.length) :
    Calls Tryz.prog 150 #[.string ⟨l.toArray⟩, .int .i64 f, .string ⟨#[c, c, c]⟩] w fun e w' => e = .returned (.bool (markM l c.toNat f)) ∧ w = w' := by
  have hP := fun w => Tryz.strings_HasPrefix ⟨(l.drop f).toArray⟩ ⟨#[c, c, c]⟩ w
  have hE := fun w => ends_c l (f + 3) w hs (by omega)
  have hp : Lib.hasPrefix (⟨(l.drop f).toArray⟩ : ByteArray).data.toList (⟨#[c, c, c]⟩ : ByteArray).data.toList = decide (f + 3 ≤ l.length ∧ byt l f = c.toNat ∧ byt l (f + 1) = c.toNat ∧ byt l (f + 2) = c.toNat) := by
    show Lib.hasPrefix (l.drop f) [c, c, c] = _
    rw [pre3, List.length_drop, byt_drop, byt_drop, byt_drop, Bool.eq_iff_iff]
    simp
    omega
  have hm : markM l c.toNat f = (decide (f + 3 ≤ l.length ∧ byt l f = c.toNat ∧ byt l (f + 1) = c.toNat ∧ byt l (f + 2) = c.toNat) && endsM l (f + 3)) := rfl
  rw [hp] at hP
  clear hp
  generalize decide (f + 3 ≤ l.length ∧ byt l f = c.toNat ∧ byt l (f + 1) = c.toNat ∧ byt l (f + 2) = c.toNat) = b at *
  generalize endsM l (f + 3) = d at *
  cases b with
  | true =>
    have HM : Hid (markM l c.toNat f = d) := Lib.hid (by rw [hm]; rfl)
    clear hm
    go_enter Tryz.func150, Tryz.ntmps150
    go_wp2_with fail
    refine (hP _).mono ?_
    rintro e w1 ⟨rfl, rfl⟩
    go_wp2_with fail
    refine (hE _).mono ?_
    rintro e w1 ⟨rfl, rfl⟩
    go_wp2_with fail
    go_ret
    exact ⟨ret_bool (by rw [HM.out]), rfl⟩
  | false =>
    have HM : Hid (markM l c.toNat f = false) := Lib.hid (by rw [hm]; rfl)
    clear hm
    go_enter Tryz.func150, Tryz.ntmps150
    go_wp2_with fail
    refine (hP _).mono ?_
    rintro e w1 ⟨rfl, rfl⟩
    go_wp2_with fail
    go_ret
    exact ⟨ret_bool (by rw [HM.out]), rfl⟩
/-- A row without the White at its beginning. -/
def bareM (l : List UInt8) : List UInt8 := l.dropWhile wh
set_option maxRecDepth 100000 in
set_option maxHeartbeats 2000000 in
theorem bare_c (l : List UInt8) (w : World) (_hs : l.length ≤ 1073741824) :
    Calls Tryz.prog 149 #[.string ⟨l.toArray⟩] w fun e w' => e = .returned (.string ⟨(bareM l).toArray⟩) ∧ w = w' := by
  go_enter Tryz.func149, Tryz.ntmps149
  go_wp2_with fail
  go_loop [0] (fun s => ∃ m : List UInt8, m.length ≤ l.length ∧ s = .string ⟨m.toArray⟩ ∧ Hid (bareM m = bareM l)) (fun s => (match s with | .string b => b.size | _ => 0))
  case atStart => exact ⟨l, Nat.le_refl _, rfl, Lib.hid rfl⟩
  case round =>
    obtain ⟨m, hm, rfl, HB⟩ := hrel
    by_cases h0 : m = []
    · have HR : Hid (bareM l = []) := Lib.hid (by rw [← HB.out, h0]; rfl)
      subst h0
      go_wp2_with fail
      go_ret
      exact ⟨ret_str (by rw [HR.out]), rfl⟩
    · have hemp : m.isEmpty = false := by cases m with | nil => exact absurd rfl h0 | cons b t => rfl
      have hp : 0 < m.length := List.length_pos_iff.2 h0
      have hW := fun w => white_c (byt m 0) w (byt_lt m 0)
      have hb : bareM m = if whN (byt m 0) then bareM m.tail else m := by
        cases m with
        | nil => exact absurd rfl h0
        | cons b t =>
          unfold bareM
          rw [List.dropWhile_cons]
          rfl
      have htl : m.tail.length = m.length - 1 := List.length_tail
      generalize whN (byt m 0) = b at *
      cases b with
      | true =>
        have HR : Hid (bareM m.tail = bareM l) := Lib.hid (by rw [← HB.out, hb]; rfl)
        clear hb h0
        go_wp2_with fail
        refine (hW _).mono ?_
        rintro e w1 ⟨rfl, rfl⟩
        go_wp2_with fail
        go_round
        case rel => exact ⟨m.tail, by omega, rfl, HR⟩
        case measure => simp [size_mk]; omega
      | false =>
        have HR : Hid (bareM l = m) := Lib.hid (by rw [← HB.out, hb]; rfl)
        clear hb h0
        go_wp2_with fail
        refine (hW _).mono ?_
        rintro e w1 ⟨rfl, rfl⟩
        go_wp2_with fail
        go_ret
        exact ⟨ret_str (by rw [HR.out]), rfl⟩
theorem bare_run (l : List UInt8) (f : Nat) : bareM (l.drop f) = l.drop (f + run whN l f) := by
  suffices h : ∀ (d f : Nat), l.length - f ≤ d → bareM (l.drop f) = l.drop (f + run whN l f) from h _ f (Nat.le_refl _)
  intro d
  induction d with
  | zero => intro f hd; rw [List.drop_eq_nil_of_le (by omega), List.drop_eq_nil_of_le (by omega)]; rfl
  | succ d ih =>
    intro f hd
    by_cases hl : f < l.length
    · cases hw : whN (byt l f) with
      | true =>
        rw [run_step hl hw, List.drop_eq_getElem_cons hl]
        unfold bareM at *
        rw [List.dropWhile_cons, if_pos (by unfold wh; rw [byt_get l f hl]; exact hw), ih (f + 1) (by omega)]
        congr 1; omega
      | false =>
        rw [run_stop hw, Nat.add_zero]
        conv => lhs; rw [List.drop_eq_getElem_cons hl]
        unfold bareM
        rw [List.dropWhile_cons, if_neg (by unfold wh; rw [byt_get l f hl, hw]; decide), ← List.drop_eq_getElem_cons hl]
    · rw [List.drop_eq_nil_of_le (by omega), List.drop_eq_nil_of_le (by omega)]; rfl
theorem bare_take : ∀ (m : List UInt8) (k : Nat), bareM (m.take k) = (bareM m).take (k - (m.length - (bareM m).length)) := by
  intro m
  induction m with
  | nil => intro k; simp [bareM]
  | cons b t ih =>
    intro k
    cases k with
    | zero => simp [bareM]
    | succ k =>
      have hl : (bareM t).length ≤ t.length := (List.dropWhile_suffix _).length_le
      unfold bareM at *
      rw [List.take_succ_cons, List.dropWhile_cons, List.dropWhile_cons]
      split
      · rw [ih k, List.length_cons]
        congr 1; omega
      · simp
theorem bare_row (l : List UInt8) (f t : Nat) (hf : f ≤ l.length) : bareM ((l.drop f).take (t - f)) = (l.drop (f + run whN l f)).take (t - (f + run whN l f)) := by
  have hr := run_le whN l f
  rw [bare_take, bare_run, List.length_drop, List.length_drop]
  congr 1; omega
end Go.Proofs.YtjfgcbikdibjeaaGreatDoor
