/- The walk of bosketref1.Core. -/
import Derived.Test.YtjfgcbikdibjeaaGreatDoorWRefCore
namespace Go.Proofs.YtjfgcbikdibjeaaGreatDoor
open Go.RowKit U Go.Proofs

theorem rlong_c (l : List UInt8) (w : World) (hs : l.length ≤ 1073741824) : Calls Tryz.prog 58 #[.string ⟨l.toArray⟩] w fun e w' => e = .returned (.string ⟨(longOf l).toArray⟩) ∧ w = w' := by
  go_enter Tryz.func58, Tryz.ntmps58
  go_wp2_with fail
  go_ret
  exact ⟨ret_str rfl, rfl⟩
set_option maxRecDepth 100000 in
set_option maxHeartbeats 2000000 in
theorem rcore_words (l x : List UInt8) (w : World) (h : l ∈ nulls ++ bools ++ nans) (hx : coreR l = x) :
    Calls Tryz.prog 57 #[.string ⟨l.toArray⟩] w fun e w' => e = .returned (.string ⟨(longOf x).toArray⟩) ∧ w = w' := by
  simp only [nulls, bools, nans, List.cons_append, List.nil_append, List.mem_cons, List.not_mem_nil, or_false] at h
  rcases h with rfl | rfl | rfl | rfl | rfl | rfl | rfl | rfl | rfl | rfl | rfl | rfl | rfl | rfl
  all_goals
    have HX := Lib.hid hx
    clear hx
    go_enter Tryz.func57, Tryz.ntmps57
    go_wp2_with (go_at_call 58; refine (rlong_c _ _ (by decide)).mono ?_; rintro e w1 ⟨rfl, rfl⟩)
    go_ret
    exact ⟨ret_str (by rw [← HX.out]; rfl), rfl⟩
theorem take2 {l : List UInt8} (h : 2 < l.length) (a b : UInt8) : (l.take 2 == [a, b]) = pre2 a b l := by
  match l, h with
  | x :: y :: t, _ =>
    simp only [pre2, List.isPrefixOf, List.take_succ_cons, List.take_zero, Bool.and_true]
    rw [Bool.eq_iff_iff]
    simp [Bool.beq_eq_decide_eq]
    constructor
    · rintro ⟨rfl, rfl⟩; exact ⟨rfl, rfl⟩
    · rintro ⟨rfl, rfl⟩; exact ⟨rfl, rfl⟩
theorem pre2_byt {a b : UInt8} {l : List UInt8} (h : byt l 0 ≠ a.toNat) : pre2 a b l = false := by
  cases hp : pre2 a b l with
  | false => rfl
  | true =>
    obtain ⟨t, rfl⟩ := pre2_form hp
    exact absurd rfl h
/-- What is no word, told by the texts that it is not. -/
structure NoWord (l : List UInt8) : Prop where
  n0 : l ≠ []
  n1 : (l == [110, 117, 108, 108]) = false
  n2 : (l == [78, 117, 108, 108]) = false
  n3 : (l == [78, 85, 76, 76]) = false
  n4 : (l == [126]) = false
  b1 : (l == [116, 114, 117, 101]) = false
  b2 : (l == [84, 114, 117, 101]) = false
  b3 : (l == [84, 82, 85, 69]) = false
  b4 : (l == [102, 97, 108, 115, 101]) = false
  b5 : (l == [70, 97, 108, 115, 101]) = false
  b6 : (l == [70, 65, 76, 83, 69]) = false
  a1 : (l == [46, 110, 97, 110]) = false
  a2 : (l == [46, 78, 97, 78]) = false
  a3 : (l == [46, 78, 65, 78]) = false
theorem noWord {l : List UInt8} (hn : nulls.contains l = false) (hb : bools.contains l = false) (ha : nans.contains l = false) : NoWord l := by
  obtain ⟨n0, n1, n2, n3, n4⟩ : ¬ l = [] ∧ (l == [110, 117, 108, 108]) = false ∧ (l == [78, 117, 108, 108]) = false ∧ (l == [78, 85, 76, 76]) = false ∧ (l == [126]) = false := by simpa [nulls] using hn
  obtain ⟨b1, b2, b3, b4, b5, b6⟩ : (l == [116, 114, 117, 101]) = false ∧ (l == [84, 114, 117, 101]) = false ∧ (l == [84, 82, 85, 69]) = false ∧ (l == [102, 97, 108, 115, 101]) = false ∧ (l == [70, 97, 108, 115, 101]) = false ∧ (l == [70, 65, 76, 83, 69]) = false := by simpa [bools] using hb
  obtain ⟨a1, a2, a3⟩ : (l == [46, 110, 97, 110]) = false ∧ (l == [46, 78, 97, 78]) = false ∧ (l == [46, 78, 65, 78]) = false := by simpa [nans] using ha
  exact ⟨n0, n1, n2, n3, n4, b1, b2, b3, b4, b5, b6, a1, a2, a3⟩
theorem no_inf {u : List UInt8} (h : infs.contains u = false) : (u == [46, 105, 110, 102]) = false ∧ (u == [46, 73, 110, 102]) = false ∧ (u == [46, 73, 78, 70]) = false := by simpa [infs] using h
theorem in_inf {u : List UInt8} (h : infs.contains u = true) : u = [46, 105, 110, 102] ∨ u = [46, 73, 110, 102] ∨ u = [46, 73, 78, 70] := by simpa [infs] using h
set_option maxRecDepth 100000 in
set_option maxHeartbeats 8000000 in
theorem rcore_sign (l : List UInt8) (w : World) (hs : l.length ≤ 1073741824) (hW : NoWord l) (hg : byt l 0 = 43 ∨ byt l 0 = 45) :
    Calls Tryz.prog 57 #[.string ⟨l.toArray⟩] w fun e w' => e = .returned (.string ⟨(longOf (restR l)).toArray⟩) ∧ w = w' := by
  obtain ⟨n0, n1, n2, n3, n4, b1, b2, b3, b4, b5, b6, a1, a2, a3⟩ := hW
  have hp : 0 < l.length := List.length_pos_iff.2 n0
  have hemp := emp_no n0
  have hu : unsign l = l.tail := by rw [unsign_byt, if_pos ⟨n0, hg⟩, List.drop_one]
  have hp1 : pre2 48 111 l = false := pre2_byt (by rcases hg with h | h <;> rw [h] <;> decide)
  have hp2 : pre2 48 120 l = false := pre2_byt (by rcases hg with h | h <;> rw [h] <;> decide)
  have hr : restR l = if infs.contains l.tail then wFloat else if num l.tail = 1 then wInt else if num l.tail = 2 then wFloat else wStr := by rw [restR, hu]
  have htl : l.tail.length ≤ l.length := by rw [List.length_tail]; omega
  have hnc := num_cases l.tail
  have ht1 : 2 < l.length → (l.take 2 == [48, 111]) = false := fun h => (take2 h 48 111).trans hp1
  have ht2 : 2 < l.length → (l.take 2 == [48, 120]) = false := fun h => (take2 h 48 120).trans hp2
  have hw : ¬ 2 < l.length ∨ (2 < l.length ∧ (l.take 2 == [48, 111]) = false ∧ (l.take 2 == [48, 120]) = false) := by
    by_cases h : 2 < l.length
    · exact .inr ⟨h, ht1 h, ht2 h⟩
    · exact .inl h
  have hg2 : byt l 0 = 43 ∨ (((byt l 0 : Int) == 43) = false ∧ byt l 0 = 45) := by
    rcases hg with h | h
    · exact .inl h
    · exact .inr ⟨by simp; omega, h⟩
  clear hp1 hp2 ht1 ht2 hg hu n0
  cases hi : infs.contains l.tail with
  | true =>
    have HR : Hid (restR l = wFloat) := Lib.hid (by rw [hr, if_pos hi])
    have hii := in_inf hi
    clear hr hi hnc
    rcases hii with hii | hii | hii
    all_goals
      rcases hg2 with hg | ⟨hg0, hg⟩
      all_goals
        rcases hw with hw | ⟨hw, hw1, hw2⟩
        all_goals
          go_enter Tryz.func57, Tryz.ntmps57
          go_wp2_with (go_at_call 58; refine (rlong_c _ _ (by decide)).mono ?_; rintro e w1 ⟨rfl, rfl⟩)
          go_ret
          exact ⟨ret_str (by rw [HR.out]; rfl), rfl⟩
  | false =>
    have HR : Hid (restR l = if num l.tail = 1 then wInt else if num l.tail = 2 then wFloat else wStr) := Lib.hid (by rw [hr, if_neg (by rw [hi]; decide)])
    obtain ⟨i1, i2, i3⟩ := no_inf hi
    clear hr hi
    rcases hg2 with hg | ⟨hg0, hg⟩
    all_goals
      rcases hw with hw | ⟨hw, hw1, hw2⟩
      all_goals
        go_enter Tryz.func57, Tryz.ntmps57
        go_wp2_with fail
        refine (number_c _ _ (by omega)).mono ?_
        rintro e w1 ⟨rfl, rfl⟩
        generalize num (l.tail) = n at *
        rcases hnc with rfl | rfl | rfl
        · go_wp2_with (go_at_call 58; refine (rlong_c _ _ (by decide)).mono ?_; rintro e w1 ⟨rfl, rfl⟩)
          go_ret
          exact ⟨ret_str (by rw [HR.out]; rfl), rfl⟩
        · go_wp2_with (go_at_call 58; refine (rlong_c _ _ (by decide)).mono ?_; rintro e w1 ⟨rfl, rfl⟩)
          go_ret
          exact ⟨ret_str (by rw [HR.out]; rfl), rfl⟩
        · go_wp2_with (go_at_call 58; refine (rlong_c _ _ (by decide)).mono ?_; rintro e w1 ⟨rfl, rfl⟩)
          go_ret
          exact ⟨ret_str (by rw [HR.out]; rfl), rfl⟩
set_option maxRecDepth 100000 in
set_option maxHeartbeats 8000000 in
theorem rcore_bare (l x : List UInt8) (w : World) (hs : l.length ≤ 1073741824) (hW : NoWord l) (hg1 : byt l 0 ≠ 43) (hg2 : byt l 0 ≠ 45) (hx : (if basesR l then wInt else restR l) = x) :
    Calls Tryz.prog 57 #[.string ⟨l.toArray⟩] w fun e w' => e = .returned (.string ⟨(longOf x).toArray⟩) ∧ w = w' := by
  obtain ⟨n0, n1, n2, n3, n4, b1, b2, b3, b4, b5, b6, a1, a2, a3⟩ := hW
  have hp : 0 < l.length := List.length_pos_iff.2 n0
  have hemp := emp_no n0
  have hu : unsign l = l := by rw [unsign_byt, if_neg (fun h => h.2.elim hg1 hg2)]
  have hr : restR l = if infs.contains l then wFloat else if num l = 1 then wInt else if num l = 2 then wFloat else wStr := by rw [restR, hu]
  have hnc := num_cases l
  have g1 : ((byt l 0 : Int) == 43) = false := by simp; omega
  have g2 : ((byt l 0 : Int) == 45) = false := by simp; omega
  have hW8 := fun w h2 => rwhole_c l 8 w hs h2
  have hW16 := fun w h2 => rwhole_c l 16 w hs h2
  rw [digP_8] at hW8
  rw [digP_16] at hW16
  have hbas : basesR l = ((pre2 48 111 l && allOf oct8 (l.drop 2)) || (pre2 48 120 l && allOf hex16 (l.drop 2))) := rfl
  have ho0 : l.length ≤ 2 → allOf oct8 (l.drop 2) = false := fun h => by rw [List.drop_eq_nil_of_le h]; rfl
  have hx0 : l.length ≤ 2 → allOf hex16 (l.drop 2) = false := fun h => by rw [List.drop_eq_nil_of_le h]; rfl
  generalize allOf oct8 (l.drop 2) = o8 at *
  generalize allOf hex16 (l.drop 2) = x16 at *
  have hw : (¬ 2 < l.length ∧ basesR l = false) ∨ (2 < l.length ∧ ((l.take 2 = [48, 111] ∧ basesR l = o8) ∨ ((l.take 2 == [48, 111]) = false ∧ ((l.take 2 = [48, 120] ∧ basesR l = x16) ∨ ((l.take 2 == [48, 120]) = false ∧ basesR l = false))))) := by
    by_cases h : 2 < l.length
    · refine .inr ⟨h, ?_⟩
      have t1 := take2 h 48 111
      have t2 := take2 h 48 120
      by_cases e1 : l.take 2 = [48, 111]
      · left
        refine ⟨e1, ?_⟩
        have q1 : pre2 48 111 l = true := by rw [← t1, e1]; rfl
        have q2 : pre2 48 120 l = false := by rw [← t2, e1]; rfl
        rw [hbas, q1, q2]; simp
      · right
        have f1 : (l.take 2 == [48, 111]) = false := by simpa using e1
        refine ⟨f1, ?_⟩
        rw [hbas, ← t1, f1, ← t2]
        by_cases e2 : l.take 2 = [48, 120]
        · left; rw [e2]; exact ⟨rfl, by simp⟩
        · right
          have f2 : (l.take 2 == [48, 120]) = false := by simpa using e2
          exact ⟨f2, by rw [f2]; rfl⟩
    · refine .inl ⟨h, ?_⟩
      rw [hbas, ho0 (by omega), hx0 (by omega)]
      simp
  clear hg1 hg2 hu n0 hbas ho0 hx0
  cases hi : infs.contains l with
  | true =>
    have hb0 : basesR l = false ∧ restR l = wFloat := by
      have hall : ∀ x ∈ infs, basesR x = false ∧ restR x = wFloat := by decide
      exact hall l (by simpa using hi)
    have HR : Hid (x = wFloat) := Lib.hid (by rw [← hx, hb0.1, hb0.2]; rfl)
    have hii := in_inf hi
    clear hx hr hi hnc hw hb0 hW8 hW16
    rcases hii with rfl | rfl | rfl
    all_goals
      go_enter Tryz.func57, Tryz.ntmps57
      go_wp2_with (go_at_call 58; refine (rlong_c _ _ (by decide)).mono ?_; rintro e w1 ⟨rfl, rfl⟩)
      go_ret
      exact ⟨ret_str (by rw [HR.out]; rfl), rfl⟩
  | false =>
    have hr2 : restR l = if num l = 1 then wInt else if num l = 2 then wFloat else wStr := by rw [hr, if_neg (by rw [hi]; decide)]
    obtain ⟨i1, i2, i3⟩ := no_inf hi
    clear hr hi
    rcases hw with ⟨hw, hb⟩ | ⟨hw, ⟨hw1, hb⟩ | ⟨hw1, ⟨hw2, hb⟩ | ⟨hw2, hb⟩⟩⟩
    · have HR : Hid (x = if num l = 1 then wInt else if num l = 2 then wFloat else wStr) := Lib.hid (by rw [← hx, hb, hr2]; rfl)
      clear hx hb hr2 hW8 hW16
      go_enter Tryz.func57, Tryz.ntmps57
      go_wp2_with fail
      refine (number_c _ _ (by omega)).mono ?_
      rintro e w1 ⟨rfl, rfl⟩
      generalize num (l) = n at *
      rcases hnc with rfl | rfl | rfl
      · go_wp2_with (go_at_call 58; refine (rlong_c _ _ (by decide)).mono ?_; rintro e w1 ⟨rfl, rfl⟩)
        go_ret
        exact ⟨ret_str (by rw [HR.out]; rfl), rfl⟩
      · go_wp2_with (go_at_call 58; refine (rlong_c _ _ (by decide)).mono ?_; rintro e w1 ⟨rfl, rfl⟩)
        go_ret
        exact ⟨ret_str (by rw [HR.out]; rfl), rfl⟩
      · go_wp2_with (go_at_call 58; refine (rlong_c _ _ (by decide)).mono ?_; rintro e w1 ⟨rfl, rfl⟩)
        go_ret
        exact ⟨ret_str (by rw [HR.out]; rfl), rfl⟩
    · cases o8 with
      | true =>
        have HR : Hid (x = wInt) := Lib.hid (by rw [← hx, hb]; rfl)
        clear hx hb hr2 hW16 hnc
        go_enter Tryz.func57, Tryz.ntmps57
        go_wp2_with fail
        refine (hW8 _ (by omega)).mono ?_
        rintro e w1 ⟨rfl, rfl⟩
        go_wp2_with (go_at_call 58; refine (rlong_c _ _ (by decide)).mono ?_; rintro e w1 ⟨rfl, rfl⟩)
        go_ret
        exact ⟨ret_str (by rw [HR.out]; rfl), rfl⟩
      | false =>
        have HR : Hid (x = if num l = 1 then wInt else if num l = 2 then wFloat else wStr) := Lib.hid (by rw [← hx, hb, hr2]; rfl)
        clear hx hb hr2 hW16
        go_enter Tryz.func57, Tryz.ntmps57
        go_wp2_with fail
        refine (hW8 _ (by omega)).mono ?_
        rintro e w1 ⟨rfl, rfl⟩
        go_wp2_with fail
        refine (number_c _ _ (by omega)).mono ?_
        rintro e w1 ⟨rfl, rfl⟩
        generalize num (l) = n at *
        rcases hnc with rfl | rfl | rfl
        · go_wp2_with (go_at_call 58; refine (rlong_c _ _ (by decide)).mono ?_; rintro e w1 ⟨rfl, rfl⟩)
          go_ret
          exact ⟨ret_str (by rw [HR.out]; rfl), rfl⟩
        · go_wp2_with (go_at_call 58; refine (rlong_c _ _ (by decide)).mono ?_; rintro e w1 ⟨rfl, rfl⟩)
          go_ret
          exact ⟨ret_str (by rw [HR.out]; rfl), rfl⟩
        · go_wp2_with (go_at_call 58; refine (rlong_c _ _ (by decide)).mono ?_; rintro e w1 ⟨rfl, rfl⟩)
          go_ret
          exact ⟨ret_str (by rw [HR.out]; rfl), rfl⟩
    · cases x16 with
      | true =>
        have HR : Hid (x = wInt) := Lib.hid (by rw [← hx, hb]; rfl)
        clear hx hb hr2 hW8 hnc
        go_enter Tryz.func57, Tryz.ntmps57
        go_wp2_with fail
        refine (hW16 _ (by omega)).mono ?_
        rintro e w1 ⟨rfl, rfl⟩
        go_wp2_with (go_at_call 58; refine (rlong_c _ _ (by decide)).mono ?_; rintro e w1 ⟨rfl, rfl⟩)
        go_ret
        exact ⟨ret_str (by rw [HR.out]; rfl), rfl⟩
      | false =>
        have HR : Hid (x = if num l = 1 then wInt else if num l = 2 then wFloat else wStr) := Lib.hid (by rw [← hx, hb, hr2]; rfl)
        clear hx hb hr2 hW8
        go_enter Tryz.func57, Tryz.ntmps57
        go_wp2_with fail
        refine (hW16 _ (by omega)).mono ?_
        rintro e w1 ⟨rfl, rfl⟩
        go_wp2_with fail
        refine (number_c _ _ (by omega)).mono ?_
        rintro e w1 ⟨rfl, rfl⟩
        generalize num (l) = n at *
        rcases hnc with rfl | rfl | rfl
        · go_wp2_with (go_at_call 58; refine (rlong_c _ _ (by decide)).mono ?_; rintro e w1 ⟨rfl, rfl⟩)
          go_ret
          exact ⟨ret_str (by rw [HR.out]; rfl), rfl⟩
        · go_wp2_with (go_at_call 58; refine (rlong_c _ _ (by decide)).mono ?_; rintro e w1 ⟨rfl, rfl⟩)
          go_ret
          exact ⟨ret_str (by rw [HR.out]; rfl), rfl⟩
        · go_wp2_with (go_at_call 58; refine (rlong_c _ _ (by decide)).mono ?_; rintro e w1 ⟨rfl, rfl⟩)
          go_ret
          exact ⟨ret_str (by rw [HR.out]; rfl), rfl⟩
    · have HR : Hid (x = if num l = 1 then wInt else if num l = 2 then wFloat else wStr) := Lib.hid (by rw [← hx, hb, hr2]; rfl)
      clear hx hb hr2 hW8 hW16
      go_enter Tryz.func57, Tryz.ntmps57
      go_wp2_with fail
      refine (number_c _ _ (by omega)).mono ?_
      rintro e w1 ⟨rfl, rfl⟩
      generalize num (l) = n at *
      rcases hnc with rfl | rfl | rfl
      · go_wp2_with (go_at_call 58; refine (rlong_c _ _ (by decide)).mono ?_; rintro e w1 ⟨rfl, rfl⟩)
        go_ret
        exact ⟨ret_str (by rw [HR.out]; rfl), rfl⟩
      · go_wp2_with (go_at_call 58; refine (rlong_c _ _ (by decide)).mono ?_; rintro e w1 ⟨rfl, rfl⟩)
        go_ret
        exact ⟨ret_str (by rw [HR.out]; rfl), rfl⟩
      · go_wp2_with (go_at_call 58; refine (rlong_c _ _ (by decide)).mono ?_; rintro e w1 ⟨rfl, rfl⟩)
        go_ret
        exact ⟨ret_str (by rw [HR.out]; rfl), rfl⟩
theorem rcore_c (l : List UInt8) (w : World) (hs : l.length ≤ 1073741824) :
    Calls Tryz.prog 57 #[.string ⟨l.toArray⟩] w fun e w' => e = .returned (.string ⟨(longOf (coreR l)).toArray⟩) ∧ w = w' := by
  by_cases h : l ∈ nulls ++ bools ++ nans
  · exact rcore_words l _ w h rfl
  · simp only [List.mem_append, not_or] at h
    have hn : nulls.contains l = false := by simpa using h.1.1
    have hb : bools.contains l = false := by simpa using h.1.2
    have ha : nans.contains l = false := by simpa using h.2
    have hW := noWord hn hb ha
    have hR : coreR l = if basesR l then wInt else restR l := by unfold coreR; rw [hn, hb, ha]; rfl
    rw [hR]
    by_cases hg : byt l 0 = 43 ∨ byt l 0 = 45
    · have hp1 : pre2 48 111 l = false := pre2_byt (by rcases hg with h | h <;> rw [h] <;> decide)
      have hp2 : pre2 48 120 l = false := pre2_byt (by rcases hg with h | h <;> rw [h] <;> decide)
      have hb0 : basesR l = false := by rw [basesR, hp1, hp2]; rfl
      rw [hb0]
      exact rcore_sign l w hs hW hg
    · exact rcore_bare l _ w hs hW (fun h => hg (.inl h)) (fun h => hg (.inr h)) rfl
end Go.Proofs.YtjfgcbikdibjeaaGreatDoor
