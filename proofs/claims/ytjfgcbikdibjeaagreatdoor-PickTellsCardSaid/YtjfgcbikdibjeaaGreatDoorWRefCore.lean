/- The walks of bosketref1.Hex, digits, whole, number. -/
import Derived.Test.YtjfgcbikdibjeaaGreatDoorWCore
namespace Go.Proofs.YtjfgcbikdibjeaaGreatDoor
open Go.RowKit U Go.Proofs

/-- What a hex digit tells; -1. -/
def hexv (b : Nat) : Int := if 48 ≤ b ∧ b ≤ 57 then (b : Int) - 48 else if 97 ≤ b ∧ b ≤ 102 then (b : Int) - 87 else if 65 ≤ b ∧ b ≤ 70 then (b : Int) - 55 else -1
theorem hexv_range (b : Nat) : -1 ≤ hexv b ∧ hexv b ≤ 15 := by unfold hexv; split <;> (try split) <;> (try split) <;> omega
set_option maxRecDepth 100000 in
set_option maxHeartbeats 1000000 in
theorem hex_c (b : Nat) (w : World) (hb : b < 256) :
    Calls Tryz.prog 171 #[.int .u8 b] w fun e w' => e = .returned (.int .i32 (hexv b)) ∧ w = w' := by
  unfold hexv
  go_enter Tryz.func171, Tryz.ntmps171
  go_wp2
  all_goals (go_ret; refine ⟨ret_int ?_, rfl⟩)
  all_goals (first | omega | (simp at *; omega))
/-- A digit of a kind. -/
def digP (most : Int) (b : UInt8) : Bool := decide (0 ≤ hexv b.toNat ∧ hexv b.toNat < most)
theorem digP_8 : digP 8 = oct8 := byte_all (by decide +kernel)
theorem digP_10 : digP 10 = dec10 := byte_all (by decide +kernel)
theorem digP_16 : digP 16 = hex16 := byte_all (by decide +kernel)
theorem drop_cons2 (l : List UInt8) (k : Nat) (h : k < l.length) : l.drop k = l[k]'h :: l.drop (k + 1) := List.drop_eq_getElem_cons h

set_option maxRecDepth 100000 in
set_option maxHeartbeats 1000000 in
theorem rdigits_c (l : List UInt8) (most at0 : Int) (p : Nat) (w : World) (hp : at0 = p) (hs : l.length ≤ 1073741824) (hpl : p ≤ l.length) :
    Calls Tryz.prog 136 #[.string ⟨l.toArray⟩, .int .i64 at0, .int .i32 most] w fun e w' => e = .returned (.int .i64 ((l.drop p).takeWhile (digP most)).length) ∧ w = w' := by
  subst hp
  go_enter Tryz.func136, Tryz.ntmps136
  go_wp2
  go_loop [7] (fun n => ∃ k : Nat, p + k ≤ l.length ∧ n = .int .i64 k ∧ Hid (k + ((l.drop (p + k)).takeWhile (digP most)).length = ((l.drop p).takeWhile (digP most)).length)) (fun n => l.length - (intOf n).toNat)
  case atStart => exact ⟨0, by omega, rfl, Lib.hid (by simp)⟩
  case round =>
    obtain ⟨k, hk, rfl, hK⟩ := hrel
    by_cases hlt : p + k < l.length
    · have hdr := drop_cons2 l (p + k) hlt
      have hgb := byt_get l (p + k) hlt
      have hbl := byt_lt l (p + k)
      have hhr := hexv_range (byt l (p + k))
      have hdp : digP most (l[p + k]'hlt) = decide (0 ≤ hexv (byt l (p + k)) ∧ hexv (byt l (p + k)) < most) := by rw [digP, hgb]
      have HD := Lib.hid hdr
      have HC := Lib.hid hdp
      have hhc := fun w => hex_c (byt l (p + k)) w hbl
      clear hdr hdp hgb
      generalize hexv (byt l (p + k)) = h at *
      by_cases hd : 0 ≤ h ∧ h < most
      · obtain ⟨hd1, hd2⟩ := hd
        go_wp2_with fail
        refine (hhc _).mono ?_
        rintro e w1 ⟨rfl, rfl⟩
        go_wp2_with fail
        refine (hhc _).mono ?_
        rintro e w1 ⟨rfl, rfl⟩
        go_wp2_with fail
        go_round
        case rel =>
          refine ⟨k + 1, by omega, by go_num, Lib.hid ?_⟩
          rw [← hK.out, HD.out, List.takeWhile_cons, HC.out, if_pos (by simp [hd1, hd2]), List.length_cons]
          rw [show p + (k + 1) = p + k + 1 by omega]
          omega
        case measure => simp [intOf]; omega
      · have hf : Hid (((l.drop p).takeWhile (digP most)).length = k) := Lib.hid (by
          rw [← hK.out, HD.out, List.takeWhile_cons, HC.out, if_neg (by simpa using hd)]
          rfl)
        by_cases hd1 : 0 ≤ h
        · have hd2 : ¬ h < most := fun hh => hd ⟨hd1, hh⟩
          clear hd
          go_wp2_with fail
          refine (hhc _).mono ?_
          rintro e w1 ⟨rfl, rfl⟩
          go_wp2_with fail
          refine (hhc _).mono ?_
          rintro e w1 ⟨rfl, rfl⟩
          go_wp2_with fail
          go_ret
          exact ⟨ret_int (by rw [hf.out]), rfl⟩
        · clear hd
          go_wp2_with fail
          refine (hhc _).mono ?_
          rintro e w1 ⟨rfl, rfl⟩
          go_wp2_with fail
          go_ret
          exact ⟨ret_int (by rw [hf.out]), rfl⟩
    · have hf : Hid (((l.drop p).takeWhile (digP most)).length = k) := Lib.hid (by
        rw [← hK.out, List.drop_eq_nil_of_le (by omega)]
        rfl)
      go_wp2_with fail
      go_ret
      exact ⟨ret_int (by rw [hf.out]), rfl⟩
theorem allOf_len (p : UInt8 → Bool) (l : List UInt8) : allOf p l = decide (0 < (l.takeWhile p).length ∧ (l.takeWhile p).length = l.length) := by
  unfold allOf
  have h1 := dropWhile_nil_iff p l
  have hl : l.length = (l.takeWhile p).length + (l.dropWhile p).length := by rw [← List.length_append, List.takeWhile_append_dropWhile]
  cases ha : l.all p with
  | true =>
    have h2 := h1.2 ha
    rw [h2] at hl
    cases l with
    | nil => rfl
    | cons b t =>
      rw [Bool.and_true]
      simp at hl ⊢
      omega
  | false =>
    have h2 : l.dropWhile p ≠ [] := fun h => by rw [h1.1 h] at ha; cases ha
    have h3 := List.length_pos_iff.2 h2
    rw [Bool.and_false]
    symm
    rw [decide_eq_false_iff_not]
    omega
set_option maxRecDepth 100000 in
set_option maxHeartbeats 1000000 in
theorem rwhole_c (l : List UInt8) (most : Int) (w : World) (hs : l.length ≤ 1073741824) (h2 : 2 ≤ l.length) :
    Calls Tryz.prog 100 #[.string ⟨l.toArray⟩, .int .i32 most] w fun e w' => e = .returned (.bool (allOf (digP most) (l.drop 2))) ∧ w = w' := by
  have hr := allOf_len (digP most) (l.drop 2)
  have hD := rdigits_c l most 2 2 w rfl hs h2
  have hle : ((l.drop 2).takeWhile (digP most)).length ≤ (l.drop 2).length := (List.takeWhile_sublist _).length_le
  rw [hr]
  clear hr
  rw [List.length_drop] at hle ⊢
  generalize ((l.drop 2).takeWhile (digP most)).length = n at *
  go_enter Tryz.func100, Tryz.ntmps100
  go_wp2_with fail
  refine hD.mono ?_
  rintro e w1 ⟨rfl, rfl⟩
  clear hD
  by_cases h0 : 0 < n
  · by_cases h1 : n = l.length - 2
    · have e1 : ((n : Int) == (l.length : Int) - 2) = true := by rw [beq_iff_eq]; omega
      go_wp2_with fail
      go_ret
      exact ⟨ret_bool (by rw [decide_eq_true (show 0 < n ∧ n = l.length - 2 from ⟨h0, h1⟩)]; try (simp; omega)), rfl⟩
    · have e1 : ((n : Int) == (l.length : Int) - 2) = false := by rw [beq_eq_false_iff_ne]; omega
      go_wp2_with fail
      go_ret
      exact ⟨ret_bool (by simp [h1]), rfl⟩
  · go_wp2_with fail
    go_ret
    exact ⟨ret_bool (by simp [h0]), rfl⟩
theorem drop_ne {l : List UInt8} {q : Nat} (h : q < l.length) : l.drop q ≠ [] := by
  intro hh; have := congrArg List.length hh; simp at this; omega
theorem drop_tw (p : UInt8 → Bool) (l : List UInt8) : l.drop (l.takeWhile p).length = l.dropWhile p := by
  induction l with
  | nil => rfl
  | cons b t ih =>
    by_cases h : p b
    · simp [h, ih]
    · simp [h]
set_option maxRecDepth 100000 in
set_option maxHeartbeats 8000000 in
theorem number_c (u : List UInt8) (w : World) (hs : u.length ≤ 1073741824) :
    Calls Tryz.prog 101 #[.string ⟨u.toArray⟩] w fun e w' => e = .returned (.int .i64 (num u)) ∧ w = w' := by
  have hn : num u = numR (u.takeWhile dec10).isEmpty (u.dropWhile dec10) := rfl
  rw [← drop_tw, emp_len] at hn
  have hle0 : (u.takeWhile dec10).length ≤ u.length := (List.takeWhile_sublist _).length_le
  have hD0 := rdigits_c u 10 0 0 w rfl hs (by omega)
  rw [List.drop_zero, digP_10] at hD0
  generalize (u.takeWhile dec10).length = y at *
  by_cases hdot : y < u.length ∧ byt u y = 46
  · obtain ⟨hd1, hd2⟩ := hdot
    have hpre : [46].isPrefixOf (u.drop y) = true := by
      rw [List.drop_eq_getElem_cons hd1]
      have : u[y]'hd1 = 46 := (UInt8.toNat.inj (by rw [byt_get u y hd1]; exact hd2))
      rw [this]
      simp [List.isPrefixOf]
    rw [numR_yes _ hpre, emp_len, List.drop_drop, ← drop_tw, List.drop_drop] at hn
    have hle1 : ((u.drop (y + 1)).takeWhile dec10).length ≤ (u.drop (y + 1)).length := (List.takeWhile_sublist _).length_le
    rw [List.length_drop] at hle1
    have hD1 := fun w => rdigits_c u 10 ((y : Int) + 1) (y + 1) w (by omega) hs (by omega)
    rw [digP_10] at hD1
    generalize ((u.drop (y + 1)).takeWhile dec10).length = z at *
    clear hpre
    go_enter Tryz.func101, Tryz.ntmps101
    by_cases hz : y = 0 ∧ z = 0
    · have HN : Hid (num u = 0) := Lib.hid (by rw [hn, if_pos (by simp [hz])])
      have g1 : ((y : Int) == 0) = true := by rw [beq_iff_eq]; omega
      have g2 : ((z : Int) == 0) = true := by rw [beq_iff_eq]; omega
      clear hn hz
      go_wp2_with fail
      refine hD0.mono ?_
      rintro e w1 ⟨rfl, rfl⟩
      clear hD0
      go_wp2_with fail
      refine (hD1 _).mono ?_
      rintro e w1 ⟨rfl, rfl⟩
      go_wp2_with fail
      go_ret
      exact ⟨ret_int (by rw [HN.out]; rfl), rfl⟩
    · have HN : Hid (num u = expo 2 (u.drop (y + 1 + z))) := Lib.hid (by rw [hn, if_neg (by simpa using hz)])
      have hg : ((y : Int) == 0) = false ∨ (((y : Int) == 0) = true ∧ ((z : Int) == 0) = false) := by
        by_cases hy : y = 0
        · exact .inr ⟨by rw [beq_iff_eq]; omega, by rw [beq_eq_false_iff_ne]; omega⟩
        · exact .inl (by rw [beq_eq_false_iff_ne]; omega)
      clear hn hz
      rcases hg with hg | ⟨hg, hg2⟩
      all_goals
        go_wp2_with fail
        refine hD0.mono ?_
        rintro e w1 ⟨rfl, rfl⟩
        clear hD0
        go_wp2_with fail
        refine (hD1 _).mono ?_
        rintro e w1 ⟨rfl, rfl⟩
        clear hD1
        by_cases hend : y + 1 + z = u.length
        · have hx : Hid (num u = 2) := Lib.hid (by rw [HN.out, List.drop_eq_nil_of_le (by omega)]; rfl)
          clear HN
          go_wp2_with fail
          all_goals (go_ret; exact ⟨ret_int (by rw [hx.out]; rfl), rfl⟩)
        have hlt : y + 1 + z < u.length := by omega
        have hx0 := expo_byt 2 (drop_ne (l := u) (q := y + 1 + z) hlt)
        simp only [byt_drop, Nat.add_zero, List.tail_drop] at hx0
        by_cases he : byt u (y + 1 + z) = 101 ∨ byt u (y + 1 + z) = 69
        · have hx : Hid (num u = if allOf dec10 (unsign (u.drop (y + 1 + z + 1))) = true then 2 else 0) := Lib.hid (by rw [HN.out, hx0, if_pos he])
          have hx := hx.out
          clear hx0 HN
          rcases he with he | he
          · skip
            by_cases hsg : y + 1 + z + 1 < u.length ∧ (byt u (y + 1 + z + 1) = 43 ∨ byt u (y + 1 + z + 1) = 45)
            · have hus : unsign (u.drop (y + 1 + z + 1)) = u.drop (y + 1 + z + 2) := by
                rw [unsign_byt, byt_drop, Nat.add_zero, if_pos ⟨drop_ne (l := u) hsg.1, hsg.2⟩, List.drop_drop]
              rw [hus, allOf_len, ← digP_10, List.length_drop] at hx
              have hle : ((u.drop (y + 1 + z + 2)).takeWhile (digP 10)).length ≤ (u.drop (y + 1 + z + 2)).length := (List.takeWhile_sublist _).length_le
              have hD := fun w => rdigits_c u 10 (((y : Int) + 1 + (z : Int)) + 1 + 1) (y + 1 + z + 2) w (by omega) (by omega) (by omega)
              rw [List.length_drop] at hle
              generalize ((u.drop (y + 1 + z + 2)).takeWhile (digP 10)).length = n at *
              have HX := Lib.hid hx
              obtain ⟨hs1, hs2⟩ := hsg
              have hs3 : byt u (y + 1 + z + 1) = 43 ∨ ((byt u (y + 1 + z + 1) : Int) == 43) = false ∧ byt u (y + 1 + z + 1) = 45 := by
                rcases hs2 with h | h
                · exact .inl h
                · exact .inr ⟨by simp; omega, h⟩
              clear hx hus hs2
              rcases hs3 with h43 | ⟨h43, h45⟩
              all_goals
                go_wp2_with fail
                refine (hD _).mono ?_
                rintro e w1 ⟨rfl, rfl⟩
                by_cases h0 : n = 0
                · have g0 : ((n : Int) == 0) = true := by rw [beq_iff_eq]; omega
                  have hz : Hid (num u = 0) := Lib.hid (by rw [HX.out, if_neg (by simp <;> omega)])
                  clear h0
                  go_wp2_with fail
                  all_goals (go_ret; exact ⟨ret_int (by rw [hz.out]; rfl), rfl⟩)
                · have g0 : ((n : Int) == 0) = false := by rw [beq_eq_false_iff_ne]; omega
                  by_cases h1 : y + 1 + z + 2 + n < u.length
                  · have hz : Hid (num u = 0) := Lib.hid (by rw [HX.out, if_neg (by simp <;> omega)])
                    clear h0
                    go_wp2_with fail
                    all_goals (go_ret; exact ⟨ret_int (by rw [hz.out]; rfl), rfl⟩)
                  · have hz : Hid (num u = 2) := Lib.hid (by rw [HX.out, if_pos (by simp <;> omega)])
                    clear h0
                    go_wp2_with fail
                    all_goals (go_ret; exact ⟨ret_int (by rw [hz.out]; rfl), rfl⟩)
            · have hus : unsign (u.drop (y + 1 + z + 1)) = u.drop (y + 1 + z + 1) := by
                rw [unsign_byt, byt_drop, Nat.add_zero, if_neg]
                rintro ⟨hq1, hq2⟩
                refine hsg ⟨?_, hq2⟩
                have := List.length_pos_iff.2 hq1
                rw [List.length_drop] at this
                omega
              rw [hus, allOf_len, ← digP_10, List.length_drop] at hx
              have hle : ((u.drop (y + 1 + z + 1)).takeWhile (digP 10)).length ≤ (u.drop (y + 1 + z + 1)).length := (List.takeWhile_sublist _).length_le
              have hD := fun w => rdigits_c u 10 (((y : Int) + 1 + (z : Int)) + 1) (y + 1 + z + 1) w (by omega) (by omega) (by omega)
              rw [List.length_drop] at hle
              generalize ((u.drop (y + 1 + z + 1)).takeWhile (digP 10)).length = n at *
              have HX := Lib.hid hx
              have hs3 : ¬ y + 1 + z + 1 < u.length ∨ (y + 1 + z + 1 < u.length ∧ ((byt u (y + 1 + z + 1) : Int) == 43) = false ∧ ((byt u (y + 1 + z + 1) : Int) == 45) = false) := by
                by_cases hq : y + 1 + z + 1 < u.length
                · refine .inr ⟨hq, ?_, ?_⟩
                  · have : byt u (y + 1 + z + 1) ≠ 43 := fun h => hsg ⟨hq, .inl h⟩
                    simp; omega
                  · have : byt u (y + 1 + z + 1) ≠ 45 := fun h => hsg ⟨hq, .inr h⟩
                    simp; omega
                · exact .inl hq
              clear hx hus hsg
              rcases hs3 with hs3 | ⟨hs3, h43, h45⟩
              all_goals
                go_wp2_with fail
                refine (hD _).mono ?_
                rintro e w1 ⟨rfl, rfl⟩
                by_cases h0 : n = 0
                · have g0 : ((n : Int) == 0) = true := by rw [beq_iff_eq]; omega
                  have hz : Hid (num u = 0) := Lib.hid (by rw [HX.out, if_neg (by simp <;> omega)])
                  clear h0
                  go_wp2_with fail
                  all_goals (go_ret; exact ⟨ret_int (by rw [hz.out]; rfl), rfl⟩)
                · have g0 : ((n : Int) == 0) = false := by rw [beq_eq_false_iff_ne]; omega
                  by_cases h1 : y + 1 + z + 1 + n < u.length
                  · have hz : Hid (num u = 0) := Lib.hid (by rw [HX.out, if_neg (by simp <;> omega)])
                    clear h0
                    go_wp2_with fail
                    all_goals (go_ret; exact ⟨ret_int (by rw [hz.out]; rfl), rfl⟩)
                  · have hz : Hid (num u = 2) := Lib.hid (by rw [HX.out, if_pos (by simp <;> omega)])
                    clear h0
                    go_wp2_with fail
                    all_goals (go_ret; exact ⟨ret_int (by rw [hz.out]; rfl), rfl⟩)
          · have n1 : ((byt u (y + 1 + z) : Int) == 101) = false := by simp; omega
            by_cases hsg : y + 1 + z + 1 < u.length ∧ (byt u (y + 1 + z + 1) = 43 ∨ byt u (y + 1 + z + 1) = 45)
            · have hus : unsign (u.drop (y + 1 + z + 1)) = u.drop (y + 1 + z + 2) := by
                rw [unsign_byt, byt_drop, Nat.add_zero, if_pos ⟨drop_ne (l := u) hsg.1, hsg.2⟩, List.drop_drop]
              rw [hus, allOf_len, ← digP_10, List.length_drop] at hx
              have hle : ((u.drop (y + 1 + z + 2)).takeWhile (digP 10)).length ≤ (u.drop (y + 1 + z + 2)).length := (List.takeWhile_sublist _).length_le
              have hD := fun w => rdigits_c u 10 (((y : Int) + 1 + (z : Int)) + 1 + 1) (y + 1 + z + 2) w (by omega) (by omega) (by omega)
              rw [List.length_drop] at hle
              generalize ((u.drop (y + 1 + z + 2)).takeWhile (digP 10)).length = n at *
              have HX := Lib.hid hx
              obtain ⟨hs1, hs2⟩ := hsg
              have hs3 : byt u (y + 1 + z + 1) = 43 ∨ ((byt u (y + 1 + z + 1) : Int) == 43) = false ∧ byt u (y + 1 + z + 1) = 45 := by
                rcases hs2 with h | h
                · exact .inl h
                · exact .inr ⟨by simp; omega, h⟩
              clear hx hus hs2
              rcases hs3 with h43 | ⟨h43, h45⟩
              all_goals
                go_wp2_with fail
                refine (hD _).mono ?_
                rintro e w1 ⟨rfl, rfl⟩
                by_cases h0 : n = 0
                · have g0 : ((n : Int) == 0) = true := by rw [beq_iff_eq]; omega
                  have hz : Hid (num u = 0) := Lib.hid (by rw [HX.out, if_neg (by simp <;> omega)])
                  clear h0
                  go_wp2_with fail
                  all_goals (go_ret; exact ⟨ret_int (by rw [hz.out]; rfl), rfl⟩)
                · have g0 : ((n : Int) == 0) = false := by rw [beq_eq_false_iff_ne]; omega
                  by_cases h1 : y + 1 + z + 2 + n < u.length
                  · have hz : Hid (num u = 0) := Lib.hid (by rw [HX.out, if_neg (by simp <;> omega)])
                    clear h0
                    go_wp2_with fail
                    all_goals (go_ret; exact ⟨ret_int (by rw [hz.out]; rfl), rfl⟩)
                  · have hz : Hid (num u = 2) := Lib.hid (by rw [HX.out, if_pos (by simp <;> omega)])
                    clear h0
                    go_wp2_with fail
                    all_goals (go_ret; exact ⟨ret_int (by rw [hz.out]; rfl), rfl⟩)
            · have hus : unsign (u.drop (y + 1 + z + 1)) = u.drop (y + 1 + z + 1) := by
                rw [unsign_byt, byt_drop, Nat.add_zero, if_neg]
                rintro ⟨hq1, hq2⟩
                refine hsg ⟨?_, hq2⟩
                have := List.length_pos_iff.2 hq1
                rw [List.length_drop] at this
                omega
              rw [hus, allOf_len, ← digP_10, List.length_drop] at hx
              have hle : ((u.drop (y + 1 + z + 1)).takeWhile (digP 10)).length ≤ (u.drop (y + 1 + z + 1)).length := (List.takeWhile_sublist _).length_le
              have hD := fun w => rdigits_c u 10 (((y : Int) + 1 + (z : Int)) + 1) (y + 1 + z + 1) w (by omega) (by omega) (by omega)
              rw [List.length_drop] at hle
              generalize ((u.drop (y + 1 + z + 1)).takeWhile (digP 10)).length = n at *
              have HX := Lib.hid hx
              have hs3 : ¬ y + 1 + z + 1 < u.length ∨ (y + 1 + z + 1 < u.length ∧ ((byt u (y + 1 + z + 1) : Int) == 43) = false ∧ ((byt u (y + 1 + z + 1) : Int) == 45) = false) := by
                by_cases hq : y + 1 + z + 1 < u.length
                · refine .inr ⟨hq, ?_, ?_⟩
                  · have : byt u (y + 1 + z + 1) ≠ 43 := fun h => hsg ⟨hq, .inl h⟩
                    simp; omega
                  · have : byt u (y + 1 + z + 1) ≠ 45 := fun h => hsg ⟨hq, .inr h⟩
                    simp; omega
                · exact .inl hq
              clear hx hus hsg
              rcases hs3 with hs3 | ⟨hs3, h43, h45⟩
              all_goals
                go_wp2_with fail
                refine (hD _).mono ?_
                rintro e w1 ⟨rfl, rfl⟩
                by_cases h0 : n = 0
                · have g0 : ((n : Int) == 0) = true := by rw [beq_iff_eq]; omega
                  have hz : Hid (num u = 0) := Lib.hid (by rw [HX.out, if_neg (by simp <;> omega)])
                  clear h0
                  go_wp2_with fail
                  all_goals (go_ret; exact ⟨ret_int (by rw [hz.out]; rfl), rfl⟩)
                · have g0 : ((n : Int) == 0) = false := by rw [beq_eq_false_iff_ne]; omega
                  by_cases h1 : y + 1 + z + 1 + n < u.length
                  · have hz : Hid (num u = 0) := Lib.hid (by rw [HX.out, if_neg (by simp <;> omega)])
                    clear h0
                    go_wp2_with fail
                    all_goals (go_ret; exact ⟨ret_int (by rw [hz.out]; rfl), rfl⟩)
                  · have hz : Hid (num u = 2) := Lib.hid (by rw [HX.out, if_pos (by simp <;> omega)])
                    clear h0
                    go_wp2_with fail
                    all_goals (go_ret; exact ⟨ret_int (by rw [hz.out]; rfl), rfl⟩)
        · have hx : Hid (num u = 0) := Lib.hid (by rw [HN.out, hx0, if_neg he])
          clear hx0 HN
          have n1 : ((byt u (y + 1 + z) : Int) == 101) = false := by simp; omega
          have n2 : ((byt u (y + 1 + z) : Int) == 69) = false := by simp; omega
          clear he
          go_wp2_with fail
          all_goals (go_ret; exact ⟨ret_int (by rw [hx.out]; rfl), rfl⟩)
  · have hpre : [46].isPrefixOf (u.drop y) = false := by
      rw [Bool.eq_false_iff]
      intro hp
      obtain ⟨t, ht⟩ := List.isPrefixOf_iff_prefix.1 hp
      have hl : y < u.length := by
        rcases Nat.lt_or_ge y u.length with h | h
        · exact h
        · rw [List.drop_eq_nil_of_le h] at ht; cases ht
      refine hdot ⟨hl, ?_⟩
      have := byt_drop u y 0
      rw [Nat.add_zero, ← ht] at this
      rw [← this]
      rfl
    have hgd : ¬ y < u.length ∨ (y < u.length ∧ ((byt u y : Int) == 46) = false) := by
      by_cases hq : y < u.length
      · refine .inr ⟨hq, ?_⟩
        have : byt u y ≠ 46 := fun h => hdot ⟨hq, h⟩
        simp; omega
      · exact .inl hq
    clear hdot
    go_enter Tryz.func101, Tryz.ntmps101
    by_cases hz : y = 0
    · have HN : Hid (num u = 0) := Lib.hid (by
        rw [hn]
        by_cases hr : u.drop y = []
        · rw [hr]; simp [numR_nil, hz]
        · rw [numR_no _ hpre (.inl hr), if_pos (by simpa using hz)])
      have g1 : ((y : Int) == 0) = true := by rw [beq_iff_eq]; omega
      clear hn hz hpre
      rcases hgd with hgd | ⟨hgd, hgd2⟩
      all_goals
        go_wp2_with fail
        refine hD0.mono ?_
        rintro e w1 ⟨rfl, rfl⟩
        clear hD0
        go_wp2_with fail
        go_ret
        exact ⟨ret_int (by rw [HN.out]; rfl), rfl⟩
    · have HN : Hid (num u = expo 1 (u.drop y)) := Lib.hid (by rw [hn, numR_no _ hpre (.inr (by simpa using hz)), if_neg (by simpa using hz)])
      have g1 : ((y : Int) == 0) = false := by rw [beq_eq_false_iff_ne]; omega
      clear hn hz hpre
      rcases hgd with hgd | ⟨hgd, hgd2⟩
      · have hx : Hid (num u = 1) := Lib.hid (by rw [HN.out, List.drop_eq_nil_of_le (by omega)]; rfl)
        clear HN
        go_wp2_with fail
        refine hD0.mono ?_
        rintro e w1 ⟨rfl, rfl⟩
        clear hD0
        go_wp2_with fail
        all_goals (go_ret; exact ⟨ret_int (by rw [hx.out]; rfl), rfl⟩)
      all_goals
        go_wp2_with fail
        refine hD0.mono ?_
        rintro e w1 ⟨rfl, rfl⟩
        clear hD0
        by_cases hend : y = u.length
        · have hx : Hid (num u = 1) := Lib.hid (by rw [HN.out, List.drop_eq_nil_of_le (by omega)]; rfl)
          clear HN
          go_wp2_with fail
          all_goals (go_ret; exact ⟨ret_int (by rw [hx.out]; rfl), rfl⟩)
        have hlt : y < u.length := by omega
        have hx0 := expo_byt 1 (drop_ne (l := u) (q := y) hlt)
        simp only [byt_drop, Nat.add_zero, List.tail_drop] at hx0
        by_cases he : byt u (y) = 101 ∨ byt u (y) = 69
        · have hx : Hid (num u = if allOf dec10 (unsign (u.drop (y + 1))) = true then 2 else 0) := Lib.hid (by rw [HN.out, hx0, if_pos he])
          have hx := hx.out
          clear hx0 HN
          rcases he with he | he
          · skip
            by_cases hsg : y + 1 < u.length ∧ (byt u (y + 1) = 43 ∨ byt u (y + 1) = 45)
            · have hus : unsign (u.drop (y + 1)) = u.drop (y + 2) := by
                rw [unsign_byt, byt_drop, Nat.add_zero, if_pos ⟨drop_ne (l := u) hsg.1, hsg.2⟩, List.drop_drop]
              rw [hus, allOf_len, ← digP_10, List.length_drop] at hx
              have hle : ((u.drop (y + 2)).takeWhile (digP 10)).length ≤ (u.drop (y + 2)).length := (List.takeWhile_sublist _).length_le
              have hD := fun w => rdigits_c u 10 (((y : Int)) + 1 + 1) (y + 2) w (by omega) (by omega) (by omega)
              rw [List.length_drop] at hle
              generalize ((u.drop (y + 2)).takeWhile (digP 10)).length = n at *
              have HX := Lib.hid hx
              obtain ⟨hs1, hs2⟩ := hsg
              have hs3 : byt u (y + 1) = 43 ∨ ((byt u (y + 1) : Int) == 43) = false ∧ byt u (y + 1) = 45 := by
                rcases hs2 with h | h
                · exact .inl h
                · exact .inr ⟨by simp; omega, h⟩
              clear hx hus hs2
              rcases hs3 with h43 | ⟨h43, h45⟩
              all_goals
                go_wp2_with fail
                refine (hD _).mono ?_
                rintro e w1 ⟨rfl, rfl⟩
                by_cases h0 : n = 0
                · have g0 : ((n : Int) == 0) = true := by rw [beq_iff_eq]; omega
                  have hz : Hid (num u = 0) := Lib.hid (by rw [HX.out, if_neg (by simp <;> omega)])
                  clear h0
                  go_wp2_with fail
                  all_goals (go_ret; exact ⟨ret_int (by rw [hz.out]; rfl), rfl⟩)
                · have g0 : ((n : Int) == 0) = false := by rw [beq_eq_false_iff_ne]; omega
                  by_cases h1 : y + 2 + n < u.length
                  · have hz : Hid (num u = 0) := Lib.hid (by rw [HX.out, if_neg (by simp <;> omega)])
                    clear h0
                    go_wp2_with fail
                    all_goals (go_ret; exact ⟨ret_int (by rw [hz.out]; rfl), rfl⟩)
                  · have hz : Hid (num u = 2) := Lib.hid (by rw [HX.out, if_pos (by simp <;> omega)])
                    clear h0
                    go_wp2_with fail
                    all_goals (go_ret; exact ⟨ret_int (by rw [hz.out]; rfl), rfl⟩)
            · have hus : unsign (u.drop (y + 1)) = u.drop (y + 1) := by
                rw [unsign_byt, byt_drop, Nat.add_zero, if_neg]
                rintro ⟨hq1, hq2⟩
                refine hsg ⟨?_, hq2⟩
                have := List.length_pos_iff.2 hq1
                rw [List.length_drop] at this
                omega
              rw [hus, allOf_len, ← digP_10, List.length_drop] at hx
              have hle : ((u.drop (y + 1)).takeWhile (digP 10)).length ≤ (u.drop (y + 1)).length := (List.takeWhile_sublist _).length_le
              have hD := fun w => rdigits_c u 10 (((y : Int)) + 1) (y + 1) w (by omega) (by omega) (by omega)
              rw [List.length_drop] at hle
              generalize ((u.drop (y + 1)).takeWhile (digP 10)).length = n at *
              have HX := Lib.hid hx
              have hs3 : ¬ y + 1 < u.length ∨ (y + 1 < u.length ∧ ((byt u (y + 1) : Int) == 43) = false ∧ ((byt u (y + 1) : Int) == 45) = false) := by
                by_cases hq : y + 1 < u.length
                · refine .inr ⟨hq, ?_, ?_⟩
                  · have : byt u (y + 1) ≠ 43 := fun h => hsg ⟨hq, .inl h⟩
                    simp; omega
                  · have : byt u (y + 1) ≠ 45 := fun h => hsg ⟨hq, .inr h⟩
                    simp; omega
                · exact .inl hq
              clear hx hus hsg
              rcases hs3 with hs3 | ⟨hs3, h43, h45⟩
              all_goals
                go_wp2_with fail
                refine (hD _).mono ?_
                rintro e w1 ⟨rfl, rfl⟩
                by_cases h0 : n = 0
                · have g0 : ((n : Int) == 0) = true := by rw [beq_iff_eq]; omega
                  have hz : Hid (num u = 0) := Lib.hid (by rw [HX.out, if_neg (by simp <;> omega)])
                  clear h0
                  go_wp2_with fail
                  all_goals (go_ret; exact ⟨ret_int (by rw [hz.out]; rfl), rfl⟩)
                · have g0 : ((n : Int) == 0) = false := by rw [beq_eq_false_iff_ne]; omega
                  by_cases h1 : y + 1 + n < u.length
                  · have hz : Hid (num u = 0) := Lib.hid (by rw [HX.out, if_neg (by simp <;> omega)])
                    clear h0
                    go_wp2_with fail
                    all_goals (go_ret; exact ⟨ret_int (by rw [hz.out]; rfl), rfl⟩)
                  · have hz : Hid (num u = 2) := Lib.hid (by rw [HX.out, if_pos (by simp <;> omega)])
                    clear h0
                    go_wp2_with fail
                    all_goals (go_ret; exact ⟨ret_int (by rw [hz.out]; rfl), rfl⟩)
          · have n1 : ((byt u (y) : Int) == 101) = false := by simp; omega
            by_cases hsg : y + 1 < u.length ∧ (byt u (y + 1) = 43 ∨ byt u (y + 1) = 45)
            · have hus : unsign (u.drop (y + 1)) = u.drop (y + 2) := by
                rw [unsign_byt, byt_drop, Nat.add_zero, if_pos ⟨drop_ne (l := u) hsg.1, hsg.2⟩, List.drop_drop]
              rw [hus, allOf_len, ← digP_10, List.length_drop] at hx
              have hle : ((u.drop (y + 2)).takeWhile (digP 10)).length ≤ (u.drop (y + 2)).length := (List.takeWhile_sublist _).length_le
              have hD := fun w => rdigits_c u 10 (((y : Int)) + 1 + 1) (y + 2) w (by omega) (by omega) (by omega)
              rw [List.length_drop] at hle
              generalize ((u.drop (y + 2)).takeWhile (digP 10)).length = n at *
              have HX := Lib.hid hx
              obtain ⟨hs1, hs2⟩ := hsg
              have hs3 : byt u (y + 1) = 43 ∨ ((byt u (y + 1) : Int) == 43) = false ∧ byt u (y + 1) = 45 := by
                rcases hs2 with h | h
                · exact .inl h
                · exact .inr ⟨by simp; omega, h⟩
              clear hx hus hs2
              rcases hs3 with h43 | ⟨h43, h45⟩
              all_goals
                go_wp2_with fail
                refine (hD _).mono ?_
                rintro e w1 ⟨rfl, rfl⟩
                by_cases h0 : n = 0
                · have g0 : ((n : Int) == 0) = true := by rw [beq_iff_eq]; omega
                  have hz : Hid (num u = 0) := Lib.hid (by rw [HX.out, if_neg (by simp <;> omega)])
                  clear h0
                  go_wp2_with fail
                  all_goals (go_ret; exact ⟨ret_int (by rw [hz.out]; rfl), rfl⟩)
                · have g0 : ((n : Int) == 0) = false := by rw [beq_eq_false_iff_ne]; omega
                  by_cases h1 : y + 2 + n < u.length
                  · have hz : Hid (num u = 0) := Lib.hid (by rw [HX.out, if_neg (by simp <;> omega)])
                    clear h0
                    go_wp2_with fail
                    all_goals (go_ret; exact ⟨ret_int (by rw [hz.out]; rfl), rfl⟩)
                  · have hz : Hid (num u = 2) := Lib.hid (by rw [HX.out, if_pos (by simp <;> omega)])
                    clear h0
                    go_wp2_with fail
                    all_goals (go_ret; exact ⟨ret_int (by rw [hz.out]; rfl), rfl⟩)
            · have hus : unsign (u.drop (y + 1)) = u.drop (y + 1) := by
                rw [unsign_byt, byt_drop, Nat.add_zero, if_neg]
                rintro ⟨hq1, hq2⟩
                refine hsg ⟨?_, hq2⟩
                have := List.length_pos_iff.2 hq1
                rw [List.length_drop] at this
                omega
              rw [hus, allOf_len, ← digP_10, List.length_drop] at hx
              have hle : ((u.drop (y + 1)).takeWhile (digP 10)).length ≤ (u.drop (y + 1)).length := (List.takeWhile_sublist _).length_le
              have hD := fun w => rdigits_c u 10 (((y : Int)) + 1) (y + 1) w (by omega) (by omega) (by omega)
              rw [List.length_drop] at hle
              generalize ((u.drop (y + 1)).takeWhile (digP 10)).length = n at *
              have HX := Lib.hid hx
              have hs3 : ¬ y + 1 < u.length ∨ (y + 1 < u.length ∧ ((byt u (y + 1) : Int) == 43) = false ∧ ((byt u (y + 1) : Int) == 45) = false) := by
                by_cases hq : y + 1 < u.length
                · refine .inr ⟨hq, ?_, ?_⟩
                  · have : byt u (y + 1) ≠ 43 := fun h => hsg ⟨hq, .inl h⟩
                    simp; omega
                  · have : byt u (y + 1) ≠ 45 := fun h => hsg ⟨hq, .inr h⟩
                    simp; omega
                · exact .inl hq
              clear hx hus hsg
              rcases hs3 with hs3 | ⟨hs3, h43, h45⟩
              all_goals
                go_wp2_with fail
                refine (hD _).mono ?_
                rintro e w1 ⟨rfl, rfl⟩
                by_cases h0 : n = 0
                · have g0 : ((n : Int) == 0) = true := by rw [beq_iff_eq]; omega
                  have hz : Hid (num u = 0) := Lib.hid (by rw [HX.out, if_neg (by simp <;> omega)])
                  clear h0
                  go_wp2_with fail
                  all_goals (go_ret; exact ⟨ret_int (by rw [hz.out]; rfl), rfl⟩)
                · have g0 : ((n : Int) == 0) = false := by rw [beq_eq_false_iff_ne]; omega
                  by_cases h1 : y + 1 + n < u.length
                  · have hz : Hid (num u = 0) := Lib.hid (by rw [HX.out, if_neg (by simp <;> omega)])
                    clear h0
                    go_wp2_with fail
                    all_goals (go_ret; exact ⟨ret_int (by rw [hz.out]; rfl), rfl⟩)
                  · have hz : Hid (num u = 2) := Lib.hid (by rw [HX.out, if_pos (by simp <;> omega)])
                    clear h0
                    go_wp2_with fail
                    all_goals (go_ret; exact ⟨ret_int (by rw [hz.out]; rfl), rfl⟩)
        · have hx : Hid (num u = 0) := Lib.hid (by rw [HN.out, hx0, if_neg he])
          clear hx0 HN
          have n1 : ((byt u (y) : Int) == 101) = false := by simp; omega
          have n2 : ((byt u (y) : Int) == 69) = false := by simp; omega
          clear he
          go_wp2_with fail
          all_goals (go_ret; exact ⟨ret_int (by rw [hx.out]; rfl), rfl⟩)
end Go.Proofs.YtjfgcbikdibjeaaGreatDoor
