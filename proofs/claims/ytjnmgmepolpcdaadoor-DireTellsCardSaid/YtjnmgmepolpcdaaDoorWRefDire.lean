/- The walks of bosketref1.handle at a text's beginning, version, percents. -/
import Derived.Test.YtjnmgmepolpcdaaDoorWRefSign
import Derived.Test.YtjnmgmepolpcdaaDoorPSize
namespace Go.Proofs.YtjnmgmepolpcdaaDoor
open Go.RowKit U Go.Proofs

/-- bosketref1.handle at a text's beginning. -/
def handleR (l : List UInt8) : Nat := if 1 + wordsLen (l.drop 1) < l.length ∧ byt l (1 + wordsLen (l.drop 1)) = 33 then 1 + wordsLen (l.drop 1) + 1 else 1
set_option maxRecDepth 100000 in
set_option maxHeartbeats 4000000 in
theorem rhandle_c (l : List UInt8) (w : World) (hs : l.length ≤ 1073741824) (hp : 1 ≤ l.length) : Calls Tryd.prog 116 #[.string ⟨l.toArray⟩, .int .i64 0] w fun e w' => e = .returned (.int .i64 (handleR l)) ∧ w = w' := by
  go_enter Tryd.func116, Tryd.ntmps116
  go_wp2_with fail
  go_loop [5] (fun n => ∃ k : Nat, 1 ≤ k ∧ k ≤ l.length ∧ n = .int .i64 k ∧ Hid (k + wordsLen (l.drop k) = 1 + wordsLen (l.drop 1))) (fun n => l.length - (intOf n).toNat)
  case atStart => exact ⟨1, by omega, by omega, rfl, Lib.hid rfl⟩
  case round =>
    obtain ⟨k, hk1, hk, rfl, hK⟩ := hrel
    by_cases hlt : k < l.length
    · have hbl := byt_lt l k
      have hstep := wordsLen_at hlt
      have hU := fun w => rword_c (byt l k) w hbl
      generalize wordN (byt l k) = u at *
      have HS := Lib.hid hstep
      clear hstep
      cases u with
      | true =>
        have hn : Hid (k + 1 + wordsLen (l.drop (k + 1)) = 1 + wordsLen (l.drop 1)) := Lib.hid (by rw [← hK.out, HS.out, if_pos rfl]; omega)
        go_wp2_with fail
        refine (hU _).mono ?_
        rintro e w1 ⟨rfl, rfl⟩
        go_wp2_with fail
        go_round
        case rel => exact ⟨k + 1, by omega, by omega, by go_num, hn⟩
        case measure => simp [intOf]; omega
      | false =>
        have hf : 1 + wordsLen (l.drop 1) = k := by rw [← hK.out, HS.out, if_neg (by decide)]; rfl
        by_cases h33 : byt l k = 33
        · have hr : Hid (handleR l = k + 1) := Lib.hid (by rw [handleR, hf, if_pos ⟨hlt, h33⟩])
          have g33 : ((byt l k : Int) == 33) = true := by rw [beq_iff_eq]; omega
          clear hf h33
          go_wp2_with fail
          refine (hU _).mono ?_
          rintro e w1 ⟨rfl, rfl⟩
          go_wp2_with fail
          go_ret
          exact ⟨ret_int (by rw [hr.out]; go_num), rfl⟩
        · have hr : Hid (handleR l = 1) := Lib.hid (by rw [handleR, hf, if_neg (fun h => h33 h.2)])
          have g33 : ((byt l k : Int) == 33) = false := by simp; omega
          clear hf h33
          go_wp2_with fail
          refine (hU _).mono ?_
          rintro e w1 ⟨rfl, rfl⟩
          go_wp2_with fail
          go_ret
          exact ⟨ret_int (by rw [hr.out]; rfl), rfl⟩
    · have hf : 1 + wordsLen (l.drop 1) = k := by rw [← hK.out, List.drop_eq_nil_of_le (by omega)]; rfl
      have hr : Hid (handleR l = 1) := Lib.hid (by rw [handleR, hf, if_neg (fun h => hlt h.1)])
      clear hf
      go_wp2_with fail
      go_ret
      exact ⟨ret_int (by rw [hr.out]; rfl), rfl⟩
theorem hex_neg (b : Nat) : decide (hexv b < 0) = !hexN b := by
  unfold hexv hexN
  rw [Bool.eq_iff_iff]
  simp
  split <;> (try split) <;> (try split) <;> omega
/-- Each % stands ahead of two hex digits. -/
def pctsM : List UInt8 → Bool
  | [] => true
  | b :: t => (b.toNat != 37 || pctN (b :: t)) && pctsM t
theorem pctsM_at {l : List UInt8} {k : Nat} (h : k < l.length) : pctsM (l.drop k) = ((byt l k != 37 || pctN (l.drop k)) && pctsM (l.drop (k + 1))) := by
  rw [List.drop_eq_getElem_cons h, pctsM, byt_get l k h]
set_option maxRecDepth 100000 in
set_option maxHeartbeats 4000000 in
theorem percents_c (l : List UInt8) (w : World) (hs : l.length ≤ 1073741824) : Calls Tryd.prog 118 #[.string ⟨l.toArray⟩] w fun e w' => e = .returned (.bool (pctsM l)) ∧ w = w' := by
  go_enter Tryd.func118, Tryd.ntmps118
  go_wp2_with fail
  go_loop [3] (fun i => ∃ k : Nat, k ≤ l.length ∧ i = .int .i64 k ∧ Hid (pctsM (l.drop k) = pctsM l)) (fun i => l.length - (intOf i).toNat)
  case atStart => exact ⟨0, Nat.zero_le _, rfl, Lib.hid rfl⟩
  case round =>
    obtain ⟨k, hk, rfl, hK⟩ := hrel
    by_cases hlt : k < l.length
    · have hst := pctsM_at hlt
      unfold pctN at hst
      rw [byt_drop, byt_drop, List.length_drop] at hst
      have hh1 := fun w => hex_c (byt l (k + 1)) w (byt_lt _ _)
      have hh2 := fun w => hex_c (byt l (k + 2)) w (byt_lt _ _)
      have hx1 := hex_neg (byt l (k + 1))
      have hx2 := hex_neg (byt l (k + 2))
      generalize hexv (byt l (k + 1)) = x1 at *
      generalize hexv (byt l (k + 2)) = x2 at *
      generalize hexN (byt l (k + 1)) = y1 at *
      generalize hexN (byt l (k + 2)) = y2 at *
      by_cases h37 : byt l k = 37
      · have g37 : ((byt l k : Int) == 37) = true := by rw [beq_iff_eq]; omega
        have hst2 : pctsM (l.drop k) = ((decide (3 ≤ l.length - k) && y1 && y2) && pctsM (l.drop (k + 1))) := by rw [hst, h37]; simp
        clear hst h37
        by_cases h3 : 3 ≤ l.length - k
        · rw [decide_eq_true h3] at hst2
          cases y1 with
          | false =>
            have hr : Hid (pctsM l = false) := Lib.hid (by rw [← hK.out, hst2]; rfl)
            have hx1' : x1 < 0 := by simpa using hx1
            clear hst2 hx1 hx2
            go_wp2_with fail
            refine (hh1 _).mono ?_
            rintro e w1 ⟨rfl, rfl⟩
            go_wp2_with fail
            go_ret
            exact ⟨ret_bool (by rw [hr.out]), rfl⟩
          | true =>
            have hx1' : ¬ x1 < 0 := by simpa using hx1
            cases y2 with
            | false =>
              have hr : Hid (pctsM l = false) := Lib.hid (by rw [← hK.out, hst2]; rfl)
              have hx2' : x2 < 0 := by simpa using hx2
              clear hst2 hx1 hx2
              go_wp2_with fail
              refine (hh1 _).mono ?_
              rintro e w1 ⟨rfl, rfl⟩
              go_wp2_with fail
              refine (hh2 _).mono ?_
              rintro e w1 ⟨rfl, rfl⟩
              go_wp2_with fail
              go_ret
              exact ⟨ret_bool (by rw [hr.out]), rfl⟩
            | true =>
              have hx2' : ¬ x2 < 0 := by simpa using hx2
              have hn : Hid (pctsM (l.drop (k + 1)) = pctsM l) := Lib.hid (by rw [← hK.out, hst2]; rfl)
              clear hst2 hx1 hx2
              go_wp2_with fail
              refine (hh1 _).mono ?_
              rintro e w1 ⟨rfl, rfl⟩
              go_wp2_with fail
              refine (hh2 _).mono ?_
              rintro e w1 ⟨rfl, rfl⟩
              go_wp2_with fail
              go_round
              case rel => exact ⟨k + 1, by omega, by go_num, hn⟩
              case measure => simp [intOf]; omega
        · rw [decide_eq_false h3] at hst2
          have hr : Hid (pctsM l = false) := Lib.hid (by rw [← hK.out, hst2]; rfl)
          clear hst2 hx1 hx2
          go_wp2_with fail
          go_ret
          exact ⟨ret_bool (by rw [hr.out]), rfl⟩
      · have g37 : ((byt l k : Int) == 37) = false := by rw [beq_eq_false_iff_ne]; omega
        have hn : Hid (pctsM (l.drop (k + 1)) = pctsM l) := Lib.hid (by rw [← hK.out, hst, bne_iff_ne.2 h37]; rfl)
        clear hst h37 hx1 hx2
        go_wp2_with fail
        go_round
        case rel => exact ⟨k + 1, by omega, by go_num, hn⟩
        case measure => simp [intOf]; omega
    · have hr : Hid (pctsM l = true) := Lib.hid (by rw [← hK.out, List.drop_eq_nil_of_le (by omega)]; rfl)
      go_wp2_with fail
      go_ret
      exact ⟨ret_bool (by rw [hr.out]), rfl⟩
end Go.Proofs.YtjnmgmepolpcdaaDoor
