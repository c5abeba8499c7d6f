/- The walks of the document's answer of 23.1: what may stand plain, in rows. -/
import Derived.Test.YtjfgcbikdibjeaaGreatDoorWRefPick
import Derived.Test.YtjfgcbikdibjeaaGreatDoorPAllB
import Derived.Test.YtjfgcbikdibjeaaGreatDoorWRefQuote
import Derived.Test.YtjfgcbikdibjeaaGreatDoorWRefWords
import Derived.Test.YtjfgcbikdibjeaaGreatDoorFrame
namespace Go.Proofs.YtjfgcbikdibjeaaGreatDoor
open Go.RowKit U Go.Proofs

set_option maxRecDepth 100000 in
set_option maxHeartbeats 4000000 in
theorem rows22_c (l : List UInt8) (w : World) (hs : l.length ≤ 1073741824) :
    Calls Tryz.prog 55 #[.string ⟨l.toArray⟩] w (RetRow w 9 (strs (rowsR [] l))) := by
  obtain ⟨i0, hi, hz0, hz1, hz2⟩ := info_parts Tryz.infoStr
  go_enter Tryz.func55, Tryz.ntmps55
  go_wp2_with fail
  go_loopw [3, 4, 5] (fun v f i wr => ∃ (k a : Nat) (xs : List (List UInt8)), k ≤ l.length + 1 ∧ a ≤ k ∧ i = .int .i64 k ∧ f = .int .i64 a ∧ wr.ownsRow w.heap.size 9 1 v xs.length (strs xs) ∧ Below w.heap.size w wr ∧ Hid (k ≤ l.length → xs ++ rowsR (betw l a k) (l.drop k) = rowsR [] l) ∧ xs.length ≤ k ∧ Hid (l.length < k → xs = rowsR [] l)) (fun _ _ i _ => l.length + 1 - (intOf i).toNat)
  case atStart => exact ⟨0, 0, [], Nat.zero_le _, Nat.le_refl _, rfl, rfl, own_nil _ _ _, Below.refl _ _, Lib.hid (fun _ => by simp [betw]), Nat.le_refl _, Lib.hid (fun h => by omega)⟩
  case round =>
    obtain ⟨k, a, xs, hk, ha, rfl, rfl, hown, hbw, hP, hxl, hA0⟩ := hrel
    have hsz := hbw.size
    have hc3 : xs.length + 1 ≤ maxLen := by unfold maxLen; omega
    have hc4 : (xs.length + 1) * 16 ≤ 140737488355328 := by omega
    by_cases hle : k ≤ l.length
    · have hP := hP.out hle
      by_cases hlt : k < l.length
      · have hd := List.drop_eq_getElem_cons hlt
        have hbs := betw_snoc ha hlt
        have hz : betw l (k + 1) (k + 1) = [] := by simp [betw]
        have hwb : l[k]'hlt = 10 ↔ byt l k = 10 := by rw [← byt_get l k hlt]; exact ⟨fun h => by rw [h]; rfl, fun h => UInt8.toNat_inj.1 h⟩
        by_cases h10 : byt l k = 10
        · have hn : Hid (k + 1 ≤ l.length → (xs ++ [betw l a k]) ++ rowsR (betw l (k + 1) (k + 1)) (l.drop (k + 1)) = rowsR [] l) := Lib.hid (fun _ => by
            rw [← hP, hd, rowsR, if_pos (hwb.2 h10), hz]; simp)
          have g10 : ((byt l k : Int) != 10) = false := by rw [h10]; rfl
          clear hd hbs hz hwb hP h10
          go_wp2_with (at_builtin; go_loud (refine wpList_push rfl _ _ 39 rfl w.heap.size 9 i0 (.string ⟨#[]⟩) 16 Tryz.underlying39 hi hz0 hz1 hz2 rfl u3 _ _ _ rfl hown rfl rfl hc3 hc4 hbw hsz ?_); intro v1 w2 hown1 hbw1)
          exact ⟨⟨k + 1, k + 1, xs ++ [betw l a k], by omega, by omega, by go_num, by go_num, by simpa [strs_snoc, betw] using hown1, hbw1, hn, by simp; omega, Lib.hid (fun h => by omega)⟩, by simp [intOf]; omega⟩
        · have hn : Hid (k + 1 ≤ l.length → xs ++ rowsR (betw l a (k + 1)) (l.drop (k + 1)) = rowsR [] l) := Lib.hid (fun _ => by
            rw [← hP, hd, rowsR, if_neg (fun h => h10 (hwb.1 h)), hbs])
          have g10 : ((byt l k : Int) != 10) = true := by rw [bne_iff_ne]; omega
          clear hd hbs hz hwb hP h10
          go_wp2_with fail
          exact ⟨⟨k + 1, a, xs, by omega, by omega, by go_num, rfl, hown, hbw, hn, by omega, Lib.hid (fun h => by omega)⟩, by simp [intOf]; omega⟩
      · have hd : l.drop k = [] := List.drop_eq_nil_of_le (by omega)
        have hbe := betw_emp (l := l) (a := a) hle
        rw [hd, rowsR, hbe] at hP
        clear hd hbe
        by_cases hka : a < k
        · have hn : Hid (l.length < k + 1 → xs ++ [betw l a k] = rowsR [] l) := Lib.hid (fun _ => by
            rw [← hP, decide_eq_false (by omega), if_neg (by decide)])
          clear hP
          go_wp2_with (at_builtin; go_loud (refine wpList_push rfl _ _ 39 rfl w.heap.size 9 i0 (.string ⟨#[]⟩) 16 Tryz.underlying39 hi hz0 hz1 hz2 rfl u3 _ _ _ rfl hown rfl rfl hc3 hc4 hbw hsz ?_); intro v1 w2 hown1 hbw1)
          exact ⟨⟨k + 1, k + 1, xs ++ [betw l a k], by omega, by omega, by go_num, by go_num, by simpa [strs_snoc, betw] using hown1, hbw1, Lib.hid (fun h => by omega), by simp; omega, hn⟩, by simp [intOf]; omega⟩
        · have hn : Hid (l.length < k + 1 → xs = rowsR [] l) := Lib.hid (fun _ => by
            rw [← hP, decide_eq_true (by omega), if_pos rfl, List.append_nil])
          clear hP
          go_wp2_with fail
          exact ⟨⟨k + 1, k + 1, xs, by omega, by omega, by go_num, by go_num, hown, hbw, Lib.hid (fun h => by omega), by omega, hn⟩, by simp [intOf]; omega⟩
    · have hx : xs = rowsR [] l := hA0.out (by omega)
      go_wp2_with fail
      go_ret
      subst hx
      exact retRow_of (strs_length _) hown hbw
theorem take3_pre {l : List UInt8} (h : 3 ≤ l.length) (c : UInt8) : (l.take 3 != [c, c, c]) = !preN l c.toNat := by
  match l, h with
  | a :: b :: d :: t, _ =>
    have e : (a :: b :: d :: t).take 3 = [a, b, d] := rfl
    have e2 : preN (a :: b :: d :: t) c.toNat = decide (a.toNat = c.toNat ∧ b.toNat = c.toNat ∧ d.toNat = c.toNat) := decide_eq_decide.2 ⟨fun h => h.2, fun h => ⟨by simp, h⟩⟩
    rw [e, e2]
    show (!([a, b, d] == [c, c, c])) = _
    congr 1
    rw [Bool.eq_iff_iff, beq_iff_eq, decide_eq_true_iff]
    simp [UInt8.toNat_inj]
set_option maxRecDepth 100000 in
set_option maxHeartbeats 4000000 in
theorem rplain22_c (l : List UInt8) (flow : Bool) (w : World) (hs : l.length ≤ 1000000) :
    Calls Tryz.prog 15 #[.string ⟨l.toArray⟩, .bool flow] w fun e w' => e = .returned (.bool (plainM l flow)) ∧ Below w.heap.size w w' := by
  obtain ⟨S, hS⟩ : ∃ S, S = plainM l flow := ⟨_, rfl⟩
  rw [← hS]
  rw [plain_ref] at hS
  have hB := fun w => rbegins_c l 0 flow w (by omega) (Nat.zero_le _)
  have hP := fun w => rpart_c l 0 flow w hs (Nat.zero_le _)
  have hG := fun w => rsingle_c l w (by omega)
  have hpl := (partM_le (l := l) (p := 0) (flow := flow)).2
  have hrt := rowTo_le (l := l) (p := 0) (Nat.zero_le _)
  have h45 := take3_pre (l := l) (c := 45)
  have h46 := take3_pre (l := l) (c := 46)
  have hsh : l.length < 3 → preN l 45 = false ∧ preN l 46 = false := fun h => ⟨decide_eq_false (by omega), decide_eq_false (by omega)⟩
  change 3 ≤ l.length → (l.take 3 != [45, 45, 45]) = !preN l 45 at h45
  change 3 ≤ l.length → (l.take 3 != [46, 46, 46]) = !preN l 46 at h46
  generalize preN l 45 = p45 at *
  generalize preN l 46 = p46 at *
  generalize partM l 0 flow = pt at *
  cases hb : beginsM l 0 flow with
  | false =>
    rw [hb] at hB hS
    have HS : Hid (S = false) := Lib.hid (by rw [hS]; rfl)
    clear hS hb hP hG h45 h46 hsh
    go_enter Tryz.func15, Tryz.ntmps15
    go_wp2_with fail
    refine (hB _).mono ?_
    rintro e w1 ⟨rfl, rfl⟩
    go_wp2_with fail
    go_ret
    exact ⟨ret_bool HS.out.symm, Below.refl _ _⟩
  | true =>
    rw [hb, Bool.true_and] at hS
    rw [hb] at hB
    by_cases hpe : pt = l.length
    case neg =>
      have HS : Hid (S = false) := Lib.hid (by rw [hS, decide_eq_false hpe]; rfl)
      have gp : ((pt : Int) != (l.length : Int)) = true := by rw [bne_iff_ne]; omega
      clear hS hb hG h45 h46 hsh
      go_enter Tryz.func15, Tryz.ntmps15
      go_wp2_with fail
      refine (hB _).mono ?_
      rintro e w1 ⟨rfl, rfl⟩
      go_wp2_with fail
      refine (hP _).mono ?_
      rintro e w1 ⟨rfl, rfl⟩
      go_wp2_with fail
      go_ret
      exact ⟨ret_bool HS.out.symm, Below.refl _ _⟩
    case pos =>
      rw [decide_eq_true hpe, Bool.true_and] at hS
      subst hpe
      cases hg : singleM l with
      | false =>
        rw [hg] at hG hS
        have HS : Hid (S = false) := Lib.hid (by rw [hS]; rfl)
        clear hS hb hg h45 h46 hsh
        go_enter Tryz.func15, Tryz.ntmps15
        go_wp2_with fail
        refine (hB _).mono ?_
        rintro e w1 ⟨rfl, rfl⟩
        go_wp2_with fail
        refine (hP _).mono ?_
        rintro e w1 ⟨rfl, rfl⟩
        go_wp2_with fail
        refine (hG _).mono ?_
        rintro e w1 ⟨rfl, hb1⟩
        go_wp2_with fail
        go_ret
        exact ⟨ret_bool HS.out.symm, hb1⟩
      | true =>
        rw [hg, Bool.true_and] at hS
        rw [hg] at hG
        have HS := Lib.hid hS
        have H45 := Lib.hid h45
        have H46 := Lib.hid h46
        have HSH := Lib.hid hsh
        clear hS hb hg h45 h46 hsh
        go_enter Tryz.func15, Tryz.ntmps15
        go_wp2_with fail
        refine (hB _).mono ?_
        rintro e w1 ⟨rfl, rfl⟩
        go_wp2_with fail
        refine (hP _).mono ?_
        rintro e w1 ⟨rfl, rfl⟩
        go_wp2_with fail
        refine (hG _).mono ?_
        rintro e w2 ⟨rfl, hb1⟩
        clear hB hP hG
        go_wp2_with fail
        go_loop [5] (fun x => ∃ i : Nat, i ≤ l.length ∧ x = .int .i64 i ∧ Hid (S = (((l.drop i).all fun b => decide (b ≠ 9)) && (!p45 && !p46)))) (fun x => l.length - (intOf x).toNat)
        case atStart => exact ⟨0, Nat.zero_le _, rfl, Lib.hid (by rw [List.drop_zero]; exact HS.out)⟩
        case round =>
          clear HS
          obtain ⟨i, hi, rfl, HR⟩ := hrel
          by_cases hlt : i < l.length
          · have hst : S = ((decide (l[i]'hlt ≠ 9) && ((l.drop (i + 1)).all fun b => decide (b ≠ 9))) && (!p45 && !p46)) := by rw [HR.out, List.drop_eq_getElem_cons hlt, List.all_cons]
            have hwb : l[i]'hlt = 9 ↔ byt l i = 9 := by rw [← byt_get l i hlt]; exact ⟨fun h => by rw [h]; rfl, fun h => UInt8.toNat_inj.1 h⟩
            by_cases h9 : byt l i = 9
            · have HE : Hid (S = false) := Lib.hid (by rw [hst, decide_eq_false (fun h => h (hwb.2 h9))]; rfl)
              have g9 : ((byt l i : Int) == 9) = true := by rw [h9]; rfl
              clear hst hwb h9 HR
              go_wp2_with fail
              go_ret
              exact ⟨ret_bool HE.out.symm, hb1⟩
            · have HR2 : Hid (S = (((l.drop (i + 1)).all fun b => decide (b ≠ 9)) && (!p45 && !p46))) := Lib.hid (by rw [hst, show decide (l[i]'hlt ≠ 9) = true from decide_eq_true (fun h => h9 (hwb.1 h)), Bool.true_and])
              have g9 : ((byt l i : Int) == 9) = false := by rw [beq_eq_false_iff_ne]; omega
              clear hst hwb h9 HR
              go_wp2_with fail
              go_round
              case rel => exact ⟨i + 1, by omega, by go_num, HR2⟩
              case measure => simp [intOf]; omega
          · have hE : S = (!p45 && !p46) := by rw [HR.out, List.drop_eq_nil_of_le (by omega)]; rfl
            have HE := Lib.hid hE
            clear HR hE
            by_cases h3 : l.length < 3
            · have HF : Hid (S = true) := Lib.hid (by obtain ⟨a, b⟩ := HSH.out h3; rw [HE.out, a, b]; rfl)
              clear HE H45 H46 HSH
              go_wp2_with fail
              go_ret
              exact ⟨ret_bool HF.out.symm, hb1⟩
            · have h3' : 3 ≤ l.length := by omega
              have g45 := H45.out h3'
              have g46 := H46.out h3'
              have gd3 : decide ((l.length : Int) < 3) = false := decide_eq_false (by omega)
              clear H45 H46 HSH h3
              cases p45 with
              | true =>
                have g45 : (List.take 3 l != [45, 45, 45]) = false := g45
                have e45 : (List.take 3 l == [45, 45, 45]) = true := by simpa using g45
                go_wp2_with fail
                go_ret
                exact ⟨ret_bool (by rw [HE.out]; rfl), hb1⟩
              | false =>
                have g45 : (List.take 3 l != [45, 45, 45]) = true := g45
                have e45 : (List.take 3 l == [45, 45, 45]) = false := by simpa using g45
                cases p46 with
                | true =>
                  have g46 : (List.take 3 l != [46, 46, 46]) = false := g46
                  have e46 : (List.take 3 l == [46, 46, 46]) = true := by simpa using g46
                  go_wp2_with fail
                  go_ret
                  exact ⟨ret_bool (by rw [HE.out]; rfl), hb1⟩
                | false =>
                  have g46 : (List.take 3 l != [46, 46, 46]) = true := g46
                  have e46 : (List.take 3 l == [46, 46, 46]) = false := by simpa using g46
                  go_wp2_with fail
                  go_ret
                  exact ⟨ret_bool (by rw [HE.out]; rfl), hb1⟩
theorem rowsR_ne {l cur : List UInt8} (h : l ≠ []) : rowsR cur l ≠ [] := by rw [rowsR_is l cur h]; exact splitB_ne _ _
theorem rowsR_len {l : List UInt8} (h : l ≠ []) : (rowsR [] l).length ≤ l.length + 1 ∧ ∀ x ∈ rowsR [] l, x.length ≤ l.length := by
  rw [rowsR_is l [] h]
  have := splitB_len (trimLF l) []
  have ht := trimLF_len l
  refine ⟨by omega, fun x hx => ?_⟩
  have := this.2 x hx
  simp at this
  omega
theorem all_run {r : List UInt8} : firstM r 0 r.length = r.length ↔ r.all wh = true := by
  unfold firstM
  have hle := run_le whN r 0
  constructor
  · intro h
    have hr : run whN r 0 = r.length := by omega
    refine List.all_eq_true.2 fun b hb => ?_
    obtain ⟨j, hj, rfl⟩ := List.mem_iff_getElem.1 hb
    have := run_all (P := whN) (l := r) j 0 (Nat.zero_le _) (by omega)
    unfold wh
    rw [byt_get r j hj]
    exact this
  · intro h
    have : run whN r 0 = r.length := run_is r.length 0 (by omega) (fun j _ hj => by
      have := List.all_eq_true.1 h (r[j]'(by omega)) (List.getElem_mem _)
      unfold wh at this
      rwa [byt_get r j (by omega)] at this) (.inl (by omega))
    omega
set_option maxRecDepth 100000 in
set_option maxHeartbeats 4000000 in
theorem rliteral22_c (l : List UInt8) (w : World) (hs : l.length ≤ 1000000) :
    Calls Tryz.prog 17 #[.string ⟨l.toArray⟩] w fun e w' => e = .returned (.bool (literalM l)) ∧ Below w.heap.size w w' := by
  obtain ⟨S, hS⟩ : ∃ S, S = literalM l := ⟨_, rfl⟩
  rw [← hS]
  by_cases h0 : l = []
  · subst h0
    have HS : Hid (S = false) := Lib.hid hS
    clear hS
    go_enter Tryz.func17, Tryz.ntmps17
    go_wp2_with fail
    go_ret
    exact ⟨ret_bool HS.out.symm, Below.refl _ _⟩
  have hp : 0 < l.length := List.length_pos_iff.2 h0
  have hne : (l == []) = false := by cases l with | nil => exact absurd rfl h0 | cons _ _ => rfl
  have he : l.isEmpty = false := by cases l with | nil => exact absurd rfl h0 | cons _ _ => rfl
  rw [literal_ref h0] at hS
  have hW := fun w => rwhite_c (byt l 0) w (byt_lt l 0)
  have hP := fun w => refPlace_c l w (by omega)
  have hR := fun w => refRunes_c l w (by omega)
  have hL := fun w => rows22_c l w (by omega)
  have hrl := runes_length l
  have hwl := width_le l
  have hln := rowsR_len h0
  have hrn := rowsR_ne (cur := []) h0
  generalize place l = pl at *
  generalize runes l = rs at *
  generalize rowsR [] l = ls at *
  have hrs : rs.length ≤ 1000000 := by omega
  have hls : ls.length ≤ 1000001 := by omega
  have hl0 : 0 < ls.length := List.length_pos_iff.2 hrn
  have HLL : Hid (∀ x ∈ ls, x.length ≤ 1000000) := Lib.hid (fun x hx => by have := hln.2 x hx; omega)
  clear hrl hwl hln hrn h0
  generalize whN (byt l 0) = wv at *
  cases wv with
  | true =>
    have HS : Hid (S = false) := Lib.hid hS
    clear hS hP hR hL HLL
    go_enter Tryz.func17, Tryz.ntmps17
    go_wp2_with fail
    refine (hW _).mono ?_
    rintro e w1 ⟨rfl, rfl⟩
    go_wp2_with fail
    go_ret
    exact ⟨ret_bool HS.out.symm, Below.refl _ _⟩
  | false =>
    by_cases h10 : byt l 0 = 10
    · have g10 : ((byt l 0 : Int) == 10) = true := by rw [h10]; rfl
      have HS : Hid (S = false) := Lib.hid (by rw [hS, decide_eq_false (fun h => h h10)]; rfl)
      clear hS hP hR hL HLL h10
      go_enter Tryz.func17, Tryz.ntmps17
      go_wp2_with fail
      refine (hW _).mono ?_
      rintro e w1 ⟨rfl, rfl⟩
      go_wp2_with fail
      go_ret
      exact ⟨ret_bool HS.out.symm, Below.refl _ _⟩
    have g10 : ((byt l 0 : Int) == 10) = false := by rw [beq_eq_false_iff_ne]; omega
    rw [decide_eq_true h10] at hS
    have hS : S = ((decide (pl < 0) && rs.all printable) && (ls.all (fun r => !blankR r) && !(ls.getLast?.getD []).isEmpty)) := hS
    clear h10
    by_cases hpl : 0 ≤ pl
    · have gp : decide (0 ≤ pl) = true := decide_eq_true hpl
      have HS : Hid (S = false) := Lib.hid (by rw [hS, decide_eq_false (by omega)]; rfl)
      clear hS hR hL HLL
      go_enter Tryz.func17, Tryz.ntmps17
      go_wp2_with fail
      refine (hW _).mono ?_
      rintro e w1 ⟨rfl, rfl⟩
      go_wp2_with fail
      refine (hP _).mono ?_
      rintro e w1 ⟨rfl, rfl⟩
      go_wp2_with fail
      go_ret
      exact ⟨ret_bool HS.out.symm, Below.refl _ _⟩
    have hpl2 : pl < 0 := by omega
    have gp : decide (0 ≤ pl) = false := decide_eq_false hpl
    rw [decide_eq_true hpl2, Bool.true_and] at hS
    have HS := Lib.hid hS
    clear hS hpl
    go_enter Tryz.func17, Tryz.ntmps17
    go_wp2_with fail
    refine (hW _).mono ?_
    rintro e w1 ⟨rfl, rfl⟩
    go_wp2_with fail
    refine (hP _).mono ?_
    rintro e w1 ⟨rfl, rfl⟩
    go_wp2_with fail
    refine (hR _).mono ?_
    rintro e w1 ⟨ra, rc, rfl, hown, hb⟩
    obtain ⟨va, vc, hva, hcell⟩ := Sl.ints (k := .i32) (Sl.own hown)
    rw [hva]
    have HC := Lib.hid hcell
    clear hcell hva hown hR hP hW
    go_wp2_with fail
    go_loop [4] (fun x => ∃ i : Nat, i ≤ rs.length ∧ x = .int .i64 i ∧ Hid (S = ((rs.drop i).all printable && (ls.all (fun r => !blankR r) && !(ls.getLast?.getD []).isEmpty)))) (fun x => rs.length - (intOf x).toNat)
    case atStart => exact ⟨0, Nat.zero_le _, rfl, Lib.hid (by rw [List.drop_zero]; exact HS.out)⟩
    case round =>
      clear HS
      obtain ⟨i, hi, rfl, HR⟩ := hrel
      by_cases hlt : i < rs.length
      · obtain ⟨b, off, rfl, hbw, hck⟩ := HC.out i hlt
        have hst : S = ((printable (rs[i]'hlt) && (rs.drop (i + 1)).all printable) && (ls.all (fun r => !blankR r) && !(ls.getLast?.getD []).isEmpty)) := by rw [HR.out, List.drop_eq_getElem_cons hlt, List.all_cons]
        generalize (rs[i]'hlt) = r at *
        have HSt := Lib.hid hst
        have hPr := fun w => refPrintable_c r w
        clear hst HR
        cases hp : printable r with
        | false =>
          rw [hp] at hPr
          have HE : Hid (S = false) := Lib.hid (by rw [HSt.out, hp]; rfl)
          clear hp HSt
          go_wp2_with fail
          refine (hPr _).mono ?_
          rintro e w2 ⟨rfl, rfl⟩
          go_wp2_with fail
          go_ret
          exact ⟨ret_bool HE.out.symm, hb⟩
        | true =>
          rw [hp] at hPr
          have HR2 : Hid (S = ((rs.drop (i + 1)).all printable && (ls.all (fun r => !blankR r) && !(ls.getLast?.getD []).isEmpty))) := Lib.hid (by rw [HSt.out, hp, Bool.true_and])
          clear hp HSt
          go_wp2_with fail
          refine (hPr _).mono ?_
          rintro e w2 ⟨rfl, rfl⟩
          go_wp2_with fail
          go_round
          case rel => exact ⟨i + 1, by omega, by go_num, HR2⟩
          case measure => simp [intOf]; omega
      · have HE : Hid (S = (ls.all (fun r => !blankR r) && !(ls.getLast?.getD []).isEmpty)) := Lib.hid (by rw [HR.out, List.drop_eq_nil_of_le (by omega)]; rfl)
        clear HR HC
        go_wp2_with fail
        refine (hL _).mono ?_
        rintro e w2 ⟨la, lc, rfl, hown, hb2⟩
        have hb := hb.trans (hb2.mono hb.size)
        obtain ⟨va2, vc2, hva2, hcell⟩ := Sl.strs' (Sl.own hown)
        rw [hva2]
        have HC := Lib.hid hcell
        clear hcell hva2 hown hL hb2
        go_wp2_with fail
        go_loopg [6] ls.length (fun gk x wr => ∃ k : Nat, k ≤ ls.length ∧ gk = ls.length - k ∧ x = .int .i64 k ∧ Hid (∀ j (hj : j < ls.length), j < k → blankR (ls[j]'hj) = false) ∧ Below w2.heap.size w2 wr ∧ Below w.heap.size w wr)
        case atStart => exact ⟨0, Nat.zero_le _, rfl, rfl, Lib.hid (fun j _ h => by omega), Below.refl _ _, hb⟩
        case round =>
          clear hb
          obtain ⟨k, hk, hgk, rfl, HK, hB, hb⟩ := hrel
          by_cases hlt : k < ls.length
          · obtain ⟨b, off, rfl, hbw, hck⟩ := HC.out k hlt
            have hck := (hB.cell (p := ⟨b, off + k, none⟩) hbw).trans hck
            have hk0 : (0 : Int) ≤ (k : Int) := by omega
            have hki : (k : Int) < (ls.length : Int) := by omega
            have hrx := HLL.out _ (List.getElem_mem hlt)
            obtain ⟨r, hr⟩ : ∃ r, ls[k]'hlt = r := ⟨_, rfl⟩
            rw [hr] at hck hrx
            have HR := Lib.hid hr
            have hF := fun w => first_c r 0 r.length w (by omega) (Nat.zero_le _) (Nat.le_refl _)
            clear hr
            by_cases hr0' : r = []
            · have HK2 : Hid (∀ j (hj : j < ls.length), j < k + 1 → blankR (ls[j]'hj) = false) := Lib.hid (fun j hj h => by
                by_cases hjk : j = k
                · subst hjk; rw [HR.out, hr0']; rfl
                · exact HK.out j hj (by omega))
              subst hr0'
              clear HK HR hF
              go_upto_region 13 with fail
              go_quiet (fail)
              go_wp2_with fail
              go_roundg (ls.length - (k + 1))
              case measure => omega
              case rel => exact ⟨k + 1, by omega, rfl, by go_num, HK2, below_drewN hB _, below_drewN hb _⟩
            · have gr : (r == []) = false := by cases r with | nil => exact absurd rfl hr0' | cons _ _ => rfl
              have gr2 : (r != []) = true := by cases r with | nil => exact absurd rfl hr0' | cons _ _ => rfl
              have gri : r.isEmpty = false := by cases r with | nil => exact absurd rfl hr0' | cons _ _ => rfl
              have har := all_run (r := r)
              generalize firstM r 0 r.length = fr at *
              by_cases hfr : fr = r.length
              · have HF : Hid (S = false) := Lib.hid (by
                  have hm : ls.all (fun r => !blankR r) = false := by
                    rw [Bool.eq_false_iff]
                    intro h
                    have := List.all_eq_true.1 h r (by rw [← HR.out]; exact List.getElem_mem hlt)
                    unfold blankR at this
                    rw [gri, har.1 hfr] at this
                    cases this
                  rw [HE.out, hm]; rfl)
                clear HK HR har
                subst hfr
                go_upto_region 13 with fail
                go_quiet ((go_at_call 56; exact qs (hF _)))
                go_wp2_with fail
                go_ret
                exact ⟨ret_bool HF.out.symm, below_drewN hb _⟩
              · have HK2 : Hid (∀ j (hj : j < ls.length), j < k + 1 → blankR (ls[j]'hj) = false) := Lib.hid (fun j hj h => by
                  by_cases hjk : j = k
                  · subst hjk; rw [HR.out]; unfold blankR; rw [gri, show r.all wh = false from Bool.eq_false_iff.2 (fun h => hfr (har.2 h))]; rfl
                  · exact HK.out j hj (by omega))
                have gf : ((fr : Int) == (r.length : Int)) = false := by rw [beq_eq_false_iff_ne]; omega
                clear HK HR har hfr
                go_upto_region 13 with fail
                go_quiet ((go_at_call 56; exact qs (hF _)))
                go_wp2_with fail
                go_roundg (ls.length - (k + 1))
                case measure => omega
                case rel => exact ⟨k + 1, by omega, rfl, by go_num, HK2, below_drewN hB _, below_drewN hb _⟩
          · obtain rfl : k = ls.length := by omega
            obtain ⟨j, hj⟩ : ∃ j, ls.length = j + 1 := ⟨ls.length - 1, by omega⟩
            obtain ⟨b, off, rfl, hbw, hck⟩ := HC.out j (by omega)
            have hck := (hB.cell (p := ⟨b, off + j, none⟩) hbw).trans hck
            obtain ⟨r, hr⟩ : ∃ r, ls[j]'(by omega) = r := ⟨_, rfl⟩
            rw [hr] at hck
            have HF : Hid (S = !r.isEmpty) := Lib.hid (by
              have hm : ls.all (fun r => !blankR r) = true := List.all_eq_true.2 fun x hx => by
                obtain ⟨i, hi, rfl⟩ := List.mem_iff_getElem.1 hx
                rw [HK.out i hi hi]; rfl
              have hg : ls.getLast?.getD [] = r := by
                rw [List.getLast?_eq_getElem?, hj, Nat.add_sub_cancel, List.getElem?_eq_getElem (by omega), hr]
                rfl
              rw [HE.out, hm, hg]; rfl)
            have hjw : IntKind.i64.wrap ((ls.length : Int) - 1) = (j : Int) := by rw [IntWalk.i64_in _ (by omega)]; omega
            clear HK HE hr
            cases r with
            | nil =>
              go_wp2_with fail
              go_ret
              exact ⟨ret_bool (by rw [HF.out]; rfl), hb⟩
            | cons a t =>
              go_wp2_with fail
              go_ret
              exact ⟨ret_bool (by rw [HF.out]; rfl), hb⟩
end Go.Proofs.YtjfgcbikdibjeaaGreatDoor
