/- The walks of bosketref1.version, handled, uris. -/
import Derived.Test.YtjnmgmepolpcdaaDoorWRefDire
import Derived.Test.YtjnmgmepolpcdaaDoorWDire
import Derived.Test.YtjnmgmepolpcdaaDoorWRefTag
namespace Go.Proofs.YtjnmgmepolpcdaaDoor
open Go.RowKit U Go.Proofs

set_option maxRecDepth 100000 in
set_option maxHeartbeats 4000000 in
theorem version_c (l : List UInt8) (w : World) (hs : l.length ≤ 1073741824) : Calls Tryd.prog 85 #[.string ⟨l.toArray⟩] w fun e w' => e = .returned (.bool (oneM l)) ∧ w = w' := by
  have hO : oneM l = (pre2 49 46 l && allOf dec10 (l.drop 2)) := rfl
  by_cases h2 : 2 < l.length
  · have ht := take2 h2 49 46
    have hD := fun w => rdigits_c l 10 2 2 w rfl hs (by omega)
    rw [digP_10] at hD
    rw [allOf_len, List.length_drop] at hO
    have hle : ((l.drop 2).takeWhile dec10).length ≤ (l.drop 2).length := (List.takeWhile_sublist _).length_le
    rw [List.length_drop] at hle
    generalize ((l.drop 2).takeWhile dec10).length = n at *
    cases hp : pre2 49 46 l with
    | false =>
      rw [hp] at hO ht
      have hr : Hid (oneM l = false) := Lib.hid (by rw [hO]; rfl)
      clear hO hp
      go_enter Tryd.func85, Tryd.ntmps85
      go_wp2_with fail
      go_ret
      exact ⟨ret_bool (by rw [hr.out]), rfl⟩
    | true =>
      rw [hp] at hO ht
      have ht2 : l.take 2 = [49, 46] := by simpa using ht
      clear hp ht
      by_cases hn : n = l.length - 2
      · have hr : Hid (oneM l = true) := Lib.hid (by rw [hO, decide_eq_true (show 0 < n ∧ n = l.length - 2 from ⟨by omega, hn⟩)]; rfl)
        have g : ((n : Int) == (l.length : Int) - 2) = true := by rw [beq_iff_eq]; omega
        clear hO hn
        go_enter Tryd.func85, Tryd.ntmps85
        go_wp2_with fail
        refine (hD _).mono ?_
        rintro e w1 ⟨rfl, rfl⟩
        go_wp2_with fail
        go_ret
        exact ⟨ret_bool (by rw [hr.out]), rfl⟩
      · have hr : Hid (oneM l = false) := Lib.hid (by rw [hO, decide_eq_false (fun h => hn h.2)]; rfl)
        have g : ((n : Int) == (l.length : Int) - 2) = false := by rw [beq_eq_false_iff_ne]; omega
        clear hO hn
        go_enter Tryd.func85, Tryd.ntmps85
        go_wp2_with fail
        refine (hD _).mono ?_
        rintro e w1 ⟨rfl, rfl⟩
        go_wp2_with fail
        go_ret
        exact ⟨ret_bool (by rw [hr.out]), rfl⟩
  · have hr : Hid (oneM l = false) := Lib.hid (by rw [hO, List.drop_eq_nil_of_le (by omega), Bool.and_eq_false_iff]; exact .inr rfl)
    clear hO
    go_enter Tryd.func85, Tryd.ntmps85
    go_wp2_with fail
    go_ret
    exact ⟨ret_bool (by rw [hr.out]), rfl⟩
/-- Is a word a handle, as the document says? -/
def handledR (l : List UInt8) : Bool := l == [33] || (decide (2 ≤ l.length) && (byt l 0 == 33 && (handleR l == l.length && byt l (l.length - 1) == 33)))
set_option maxRecDepth 100000 in
set_option maxHeartbeats 4000000 in
theorem rhandled_c (l : List UInt8) (w : World) (hs : l.length ≤ 1073741824) : Calls Tryd.prog 86 #[.string ⟨l.toArray⟩] w fun e w' => e = .returned (.bool (handledR l)) ∧ w = w' := by
  by_cases h1 : l = [33]
  · subst h1
    go_enter Tryd.func86, Tryd.ntmps86
    go_wp2_with fail
    go_ret
    exact ⟨rfl, rfl⟩
  have g1 : (l == [33]) = false := by rw [beq_eq_false_iff_ne]; exact h1
  have hR : handledR l = (decide (2 ≤ l.length) && (byt l 0 == 33 && (handleR l == l.length && byt l (l.length - 1) == 33))) := by rw [handledR, g1]; rfl
  clear h1
  by_cases h2 : 2 ≤ l.length
  · rw [decide_eq_true h2, Bool.true_and] at hR
    have hH := fun w => rhandle_c l w hs (by omega)
    have hix : ((l.length : Int) - 1).toNat = l.length - 1 := by omega
    by_cases h3 : byt l 0 = 33
    · have g3 : ((byt l 0 : Int) == 33) = true := by rw [beq_iff_eq]; omega
      rw [beq_iff_eq.2 h3, Bool.true_and] at hR
      clear h3
      generalize handleR l = n at *
      by_cases h4 : n = l.length
      · have g4 : ((n : Int) == (l.length : Int)) = true := by rw [beq_iff_eq]; omega
        rw [beq_iff_eq.2 h4, Bool.true_and] at hR
        clear h4
        by_cases h5 : byt l (l.length - 1) = 33
        · have g5 : ((byt l (l.length - 1) : Int) == 33) = true := by rw [beq_iff_eq]; omega
          have hr : Hid (handledR l = true) := Lib.hid (by rw [hR, beq_iff_eq.2 h5])
          clear hR h5
          go_enter Tryd.func86, Tryd.ntmps86
          go_wp2_with fail
          refine (hH _).mono ?_
          rintro e w1 ⟨rfl, rfl⟩
          go_wp2_with fail
          go_ret
          exact ⟨ret_bool (by rw [hr.out]), rfl⟩
        · have g5 : ((byt l (l.length - 1) : Int) == 33) = false := by rw [beq_eq_false_iff_ne]; omega
          have hr : Hid (handledR l = false) := Lib.hid (by rw [hR, beq_eq_false_iff_ne.2 h5])
          clear hR h5
          go_enter Tryd.func86, Tryd.ntmps86
          go_wp2_with fail
          refine (hH _).mono ?_
          rintro e w1 ⟨rfl, rfl⟩
          go_wp2_with fail
          go_ret
          exact ⟨ret_bool (by rw [hr.out]), rfl⟩
      · have g4 : ((n : Int) == (l.length : Int)) = false := by rw [beq_eq_false_iff_ne]; omega
        have hr : Hid (handledR l = false) := Lib.hid (by rw [hR, beq_eq_false_iff_ne.2 h4]; rfl)
        clear hR h4
        go_enter Tryd.func86, Tryd.ntmps86
        go_wp2_with fail
        refine (hH _).mono ?_
        rintro e w1 ⟨rfl, rfl⟩
        go_wp2_with fail
        go_ret
        exact ⟨ret_bool (by rw [hr.out]), rfl⟩
    · have g3 : ((byt l 0 : Int) == 33) = false := by rw [beq_eq_false_iff_ne]; omega
      have hr : Hid (handledR l = false) := Lib.hid (by rw [hR, beq_eq_false_iff_ne.2 h3]; rfl)
      clear hR h3
      go_enter Tryd.func86, Tryd.ntmps86
      go_wp2_with fail
      go_ret
      exact ⟨ret_bool (by rw [hr.out]), rfl⟩
  · have hr : Hid (handledR l = false) := Lib.hid (by rw [hR, decide_eq_false h2]; rfl)
    clear hR
    go_enter Tryd.func86, Tryd.ntmps86
    go_wp2_with fail
    go_ret
    exact ⟨ret_bool (by rw [hr.out]), rfl⟩
/-- Is a word a prefix, as the document says? -/
def allUri (l : List UInt8) : Bool := l.all fun b => uriN b.toNat
def urisR (l : List UInt8) : Bool := !l.isEmpty && (!flowN (byt l 0) && (pctsM l && allUri l))
theorem allUri_at {l : List UInt8} {k : Nat} (h : k < l.length) : allUri (l.drop k) = (uriN (byt l k) && allUri (l.drop (k + 1))) := by
  unfold allUri
  rw [List.drop_eq_getElem_cons h, List.all_cons, byt_get l k h]
set_option maxRecDepth 100000 in
set_option maxHeartbeats 4000000 in
theorem ruris_c (l : List UInt8) (w : World) (hs : l.length ≤ 1073741824) : Calls Tryd.prog 87 #[.string ⟨l.toArray⟩] w fun e w' => e = .returned (.bool (urisR l)) ∧ w = w' := by
  by_cases h0 : l = []
  · subst h0
    go_enter Tryd.func87, Tryd.ntmps87
    go_wp2_with fail
    go_ret
    exact ⟨rfl, rfl⟩
  have hemp := emp_no h0
  have hp : 0 < l.length := List.length_pos_iff.2 h0
  have hR : urisR l = (!flowN (byt l 0) && (pctsM l && allUri l)) := by rw [urisR, hemp]; rfl
  have hF := fun w => rflow_c (byt l 0) w (byt_lt l 0)
  have hP := fun w => percents_c l w hs
  generalize flowN (byt l 0) = f at *
  generalize pctsM l = p at *
  cases f with
  | true =>
    have hr : Hid (urisR l = false) := Lib.hid (by rw [hR]; rfl)
    clear hR
    go_enter Tryd.func87, Tryd.ntmps87
    go_wp2_with fail
    refine (hF _).mono ?_
    rintro e w1 ⟨rfl, rfl⟩
    go_wp2_with fail
    go_ret
    exact ⟨ret_bool (by rw [hr.out]), rfl⟩
  | false =>
    cases p with
    | false =>
      have hr : Hid (urisR l = false) := Lib.hid (by rw [hR]; rfl)
      clear hR
      go_enter Tryd.func87, Tryd.ntmps87
      go_wp2_with fail
      refine (hF _).mono ?_
      rintro e w1 ⟨rfl, rfl⟩
      go_wp2_with fail
      refine (hP _).mono ?_
      rintro e w1 ⟨rfl, rfl⟩
      go_wp2_with fail
      go_ret
      exact ⟨ret_bool (by rw [hr.out]), rfl⟩
    | true =>
      have HR : Hid (urisR l = allUri l) := Lib.hid (by rw [hR]; rfl)
      clear hR
      go_enter Tryd.func87, Tryd.ntmps87
      go_wp2_with fail
      refine (hF _).mono ?_
      rintro e w1 ⟨rfl, rfl⟩
      go_wp2_with fail
      refine (hP _).mono ?_
      rintro e w1 ⟨rfl, rfl⟩
      go_wp2_with fail
      go_loop [3] (fun i => ∃ k : Nat, k ≤ l.length ∧ i = .int .i64 k ∧ Hid (allUri (l.drop k) = allUri l)) (fun i => l.length - (intOf i).toNat)
      case atStart => exact ⟨0, Nat.zero_le _, rfl, Lib.hid rfl⟩
      case round =>
        obtain ⟨k, hk, rfl, hK⟩ := hrel
        by_cases hlt : k < l.length
        · have hst := allUri_at hlt
          have hU := fun w => ruri_c (byt l k) w (byt_lt l k)
          generalize uriN (byt l k) = u at *
          cases u with
          | true =>
            have hn : Hid (allUri (l.drop (k + 1)) = allUri l) := Lib.hid (by rw [← hK.out, hst]; rfl)
            clear hst
            go_wp2_with fail
            refine (hU _).mono ?_
            rintro e w1 ⟨rfl, rfl⟩
            go_wp2_with fail
            go_round
            case rel => exact ⟨k + 1, by omega, by go_num, hn⟩
            case measure => simp [intOf]; omega
          | false =>
            have hr : Hid (urisR l = false) := Lib.hid (by rw [HR.out, ← hK.out, hst]; rfl)
            clear hst
            go_wp2_with fail
            refine (hU _).mono ?_
            rintro e w1 ⟨rfl, rfl⟩
            go_wp2_with fail
            go_ret
            exact ⟨ret_bool (by rw [hr.out]), rfl⟩
        · have hr : Hid (urisR l = true) := Lib.hid (by rw [HR.out, ← hK.out, List.drop_eq_nil_of_le (by omega)]; rfl)
          go_wp2_with fail
          go_ret
          exact ⟨ret_bool (by rw [hr.out]), rfl⟩
end Go.Proofs.YtjnmgmepolpcdaaDoor
