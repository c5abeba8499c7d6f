/- The walk of bosketref1.Directive. -/
import Derived.Test.YtjnmgmepolpcdaaDoorWRefTwice
import Derived.Test.YtjnmgmepolpcdaaDoorPDire4
import Derived.Test.YtjnmgmepolpcdaaDoorPDire3
import Derived.Deep.QuietTactic
import Derived.BigQuiet
namespace Go.Proofs.YtjnmgmepolpcdaaDoor
open Go.RowKit U Go.Proofs

theorem rcut_q (l : List UInt8) (w : World) (hs : l.length ≤ 1073741824) : Calls Tryd.prog 84 #[.string ⟨l.toArray⟩] w fun e w' => e = .returned (.string ⟨(cutM l).toArray⟩) ∧ w' = w :=
  (rcut_c l w hs).mono fun _ _ h => ⟨h.1, h.2.symm⟩
theorem white2_p : (fun b => white2.contains b) = wh := byte_all (by decide +kernel)
theorem cut_trim (l : List UInt8) : Lib.trimRightS l white2 = cutM l := by unfold Lib.trimRightS cutM; rw [white2_p]
theorem first_word : ∀ (t cur : List UInt8), cur ≠ [] → ∃ v r, wordsF cur t = (cur ++ v) :: r := by
  intro t
  induction t with
  | nil =>
    intro cur h
    rw [wordsF, emp_no h]
    exact ⟨[], [], by simp⟩
  | cons b t ih =>
    intro cur h
    rw [wordsF]
    split
    · rw [emp_no h]
      exact ⟨[], wordsF [] t, by simp⟩
    · obtain ⟨v, r, hv⟩ := ih (cur ++ [b]) (by simp)
      exact ⟨b :: v, r, by rw [hv]; simp⟩
theorem joinB_snoc : ∀ (xs : List (List UInt8)) (y : List UInt8), xs ≠ [] → joinB (xs ++ [y]) = joinB xs ++ 32 :: y := by
  intro xs y
  induction xs with
  | nil => intro h; exact absurd rfl h
  | cons a t ih =>
    intro _
    cases t with
    | nil => rfl
    | cons b t =>
      have := ih (by simp)
      show a ++ 32 :: joinB (b :: t ++ [y]) = (a ++ 32 :: joinB (b :: t)) ++ 32 :: y
      rw [this]
      simp
theorem joinB_le (m : Nat) (ws : List (List UInt8)) (h : ∀ x ∈ ws, x.length ≤ m) : (joinB ws).length ≤ ws.length * (m + 1) := by
  rw [← joinW_B]; exact join_len m ws h
/-- Are words that begin with a % a directive, as the document says? -/
def rightR (ws : List (List UInt8)) : Bool :=
  if ws.getD 0 [] = [37] then false
  else if ws.getD 0 [] = yamlW then decide (ws.length = 2) && oneM (ws.getD 1 [])
  else if ws.getD 0 [] = tagW then decide (ws.length = 3) && (handledR (ws.getD 1 []) && urisR (ws.getD 2 []))
  else true
theorem right_eq {ws : List (List UInt8)} {v : List UInt8} {r : List (List UInt8)} (h : ws = (37 :: v) :: r) (hne : ∀ u ∈ ws, u ≠ []) : rightM ws = rightR ws := by
  subst h
  unfold rightM rightR
  simp only [List.getD_cons_zero, List.length_cons]
  cases v with
  | nil => simp
  | cons c v =>
    rw [if_neg (show ¬ (r.length + 1 = 0 ∨ (c :: v).length + 1 < 2 ∨ byt (37 :: c :: v) 0 ≠ 37) by
      rintro (h | h | h)
      · omega
      · simp at h; omega
      · exact h rfl), if_neg (show ¬ (37 :: c :: v = [37]) by simp)]
    split
    · rfl
    · split
      · rw [handled_eq]
        by_cases h3 : r.length + 1 = 3
        · rw [ahead_eq]
          match r, h3 with
          | [x, y], _ => exact hne y (by simp)
        · rw [decide_eq_false h3]; simp
      · rfl
set_option maxRecDepth 100000 in
set_option maxHeartbeats 16000000 in
theorem directive_c (l : List UInt8) (w : World) (hE : Env w) (hs : l.length ≤ 1000000) :
    Calls Tryd.prog 57 #[.string ⟨l.toArray⟩] w fun e w' => e = .returned (.tuple #[.string ⟨(readM l).1.toArray⟩, .string ⟨(readM l).2.1.toArray⟩, .bool (readM l).2.2.1, .int .i64 (readM l).2.2.2]) ∧ Below w.heap.size w w' := by
  have hA := At.refl hE
  by_cases h0 : l = []
  · have HR : Hid (readM l = ([], [], false, 5)) := Lib.hid (by rw [readM, if_pos (.inl h0)])
    subst h0
    go_enter Tryd.func57, Tryd.ntmps57
    go_wp2_with fail
    exact bodyPost_ret (v := .tuple #[.string ⟨#[]⟩, .string ⟨#[]⟩, .bool false, .int .i64 5]) (by simp [results, Tryd.results57, go_sem]) rfl ⟨by rw [HR.out], hA.below⟩
  have hemp := emp_no h0
  have hp : 0 < l.length := List.length_pos_iff.2 h0
  by_cases h37 : byt l 0 = 37
  · have g37 : ((byt l 0 : Int) != 37) = false := by simp; omega
    go_enter Tryd.func57, Tryd.ntmps57
    go_wp2_with fail
    go_loop [6, 7, 8, 9] (fun a b c i => a = .string ⟨#[]⟩ ∧ b = .bool false ∧ c = .string ⟨l.toArray⟩ ∧ ∃ k : Nat, 1 ≤ k ∧ k ≤ l.length ∧ i = .int .i64 k ∧ Hid (∀ j, j < k → ¬ noteAt l j)) (fun _ _ _ i => l.length - (intOf i).toNat)
    case atStart => exact ⟨rfl, rfl, rfl, 1, by omega, by omega, rfl, Lib.hid (fun j hj hn => by have := hn.1; omega)⟩
    case round =>
      obtain ⟨rfl, rfl, rfl, k, hk1, hk, rfl, hN⟩ := hrel
      by_cases hlt : k < l.length
      · by_cases hr : byt l k = 35
        · have g35 : ((byt l k : Int) == 35) = true := by rw [beq_iff_eq]; omega
          have hW := fun w => rwhite_c (byt l (k - 1)) w (byt_lt _ _)
          by_cases hw : whN (byt l (k - 1)) = true
          · have hc := comment_at hN.out ⟨hk1, hlt, hr, hw⟩
            have HRD : Hid (readM l = restM (l.take k) (cutM (l.drop (k + 1))) true) := Lib.hid (by rw [readM, if_neg (fun h => h.elim h0 (fun h => h h37)), hc, if_pos (by omega), cut_trim]; rfl)
            rw [hw] at hW
            clear hc hr
            have hT := fun w => rcut_q (l.drop (k + 1)) w (by simp; omega)
            go_wp2_with fail
            refine (hW _).mono ?_
            rintro _ _ ⟨rfl, rfl⟩
            go_wp2_with fail
            go_quiet ((go_at_call 84; exact Calls.quiet_of_same (rcut_q (l.drop (k + 1)) _ (by simp; omega))))
            clear hT
            have hbd : ∃ t, l.take k = 37 :: t := by
              cases l with
              | nil => exact absurd rfl h0
              | cons b t =>
                obtain ⟨k, rfl⟩ : ∃ j, k = j + 1 := ⟨k - 1, by omega⟩
                exact ⟨t.take k, by rw [List.take_succ_cons, show b = 37 from UInt8.toNat.inj h37]⟩
            have hbl : (l.take k).length ≤ 1000000 := by rw [List.length_take]; omega
            have HB := Lib.hid hbd
            clear hbd h37
            go_wp2_with fail
            generalize l.take k = bd at *
            generalize cutM (l.drop (k + 1)) = tx at *
            have hwl := wordsF_len bd []
            have hwn := words_black bd [] (by simp)
            have hW := fun w => rwords_c bd w (by omega)
            unfold RetRow at hW
            have hwl1 : (wordsM bd).length ≤ 1000001 := by have := hwl.1; unfold wordsM; omega
            have hwx : ∀ x ∈ wordsM bd, x.length ≤ 1000000 := fun x hx => by have := hwl.2 x hx; simp at this; omega
            have hfw : ∃ v r, wordsM bd = (37 :: v) :: r := by
              obtain ⟨t, ht⟩ := HB.out
              obtain ⟨v, r, hv⟩ := first_word t [37] (by simp)
              refine ⟨v, r, ?_⟩
              unfold wordsM
              rw [ht, wordsF, if_neg (by decide)]
              exact hv
            obtain ⟨v, r, hvr⟩ := hfw
            have hrr := right_eq hvr (fun u hu => (hwn u hu).1)
            have hn1 : 1 ≤ (wordsM bd).length := by rw [hvr]; simp
            have ht1 : joinB ((wordsM bd).take 1) = (wordsM bd).getD 0 [] := by rw [hvr]; rfl
            have HRM : Hid (readM l = if rightM (wordsM bd) then (joinW (wordsM bd), tx, true, 0) else ([], [], false, 5)) := Lib.hid (by rw [HRD.out]; rfl)
            clear hwl hwn hvr HRD
            generalize wordsM bd = ws at *
            have HRR0 := Lib.hid hrr
            have HT1 := Lib.hid ht1
            have HWX := Lib.hid hwx
            clear hrr ht1 hwx
            refine (hW _).mono ?_
            rintro e w1 ⟨aw, cw, rfl, hown, hb⟩
            have hA : At w w1 := by first | exact hA.step hb | exact (hA.drewN _).step hb
            obtain ⟨A, rfl, hsl⟩ := own_at hown (by omega)
            rw [strs_length]
            have HSL : Hid (∀ i, i < ws.length → A < w1.heap.size ∧ w1.cell? ⟨A, i, none⟩ = some (.string ⟨(ws.getD i []).toArray⟩)) := Lib.hid (fun i hi => sl_at hsl hi)
            clear hb hown hsl hW
            obtain ⟨_, c0⟩ := HSL.out 0 (by omega)
            have gn : ((ws.length : Int) == 0) = false := by rw [beq_eq_false_iff_ne]; omega
            have HRR : Hid (rightM ws = rightR ws) := HRR0
            clear HRR0
            obtain ⟨a0, e0⟩ : ∃ a, a = ws.getD 0 [] := ⟨_, rfl⟩
            obtain ⟨a1, e1⟩ : ∃ a, a = ws.getD 1 [] := ⟨_, rfl⟩
            obtain ⟨a2, e2⟩ : ∃ a, a = ws.getD 2 [] := ⟨_, rfl⟩
            have HRQ : Hid (rightM ws = if a0 = [37] then false else if a0 = yamlW then decide (ws.length = 2) && oneM a1 else if a0 = tagW then decide (ws.length = 3) && (handledR a1 && urisR a2) else true) := Lib.hid (by rw [HRR.out, e0, e1, e2]; rfl)
            clear HRR
            rw [← e0] at c0
            have HT0 : Hid (joinB (List.take 1 ws) = a0) := Lib.hid (by rw [HT1.out, e0])
            clear HT1
            have hl1 : 1 < ws.length → a1.length ≤ 1000000 := fun h => by rw [e1]; exact HWX.out _ (by simp [List.getD, h])
            have hl2 : 2 < ws.length → a2.length ≤ 1000000 := fun h => by rw [e2]; exact HWX.out _ (by simp [List.getD, h])
            have hc1 : 1 < ws.length → w1.cell? ⟨A, 1, none⟩ = some (.string ⟨a1.toArray⟩) := fun h => by rw [e1]; exact (HSL.out 1 h).2
            have hc2 : 2 < ws.length → w1.cell? ⟨A, 2, none⟩ = some (.string ⟨a2.toArray⟩) := fun h => by rw [e2]; exact (HSL.out 2 h).2
            have HC1 := Lib.hid hc1
            have HC2 := Lib.hid hc2
            have HL1 := Lib.hid hl1
            have HL2 := Lib.hid hl2
            clear e0 e1 e2 hc1 hc2 hl1 hl2
            by_cases ha : a0 = [37]
            · have ga : (a0 == [37]) = true := by simp [ha]
              have HR : Hid (readM l = ([], [], false, 5)) := Lib.hid (by rw [HRM.out, HRQ.out, if_pos ha] <;> rfl)
              go_wp2_with fail
              exact bodyPost_ret (v := .tuple #[.string ⟨#[]⟩, .string ⟨#[]⟩, .bool false, .int .i64 5]) (by simp [results, Tryd.results57, go_sem]) rfl ⟨by rw [HR.out], hA.below⟩
            · have ga : (a0 == [37]) = false := by simp [ha]
              by_cases hy : a0 = yamlW
              · have gy : (a0 == [37, 89, 65, 77, 76]) = true := by simpa [yamlW] using hy
                have HY := Lib.hid hy
                clear hy
                by_cases h2 : ws.length = 2
                · have g2 : ((ws.length : Int) != 2) = false := by simp; omega
                  have c1 := HC1.out (by omega)
                  have hlv := HL1.out (by omega)
                  have hV := fun w => version_c a1 w (by omega)
                  by_cases ho : oneM a1 = true
                  · rw [ho] at hV
                    have HR : Hid (readM l = (joinW ws, tx, true, 0)) := Lib.hid (by rw [HRM.out, HRQ.out, if_neg ha, if_pos HY.out, ho, decide_eq_true h2] <;> rfl)
                    clear HRQ
                    go_wp2_with fail
                    refine (hV _).mono ?_
                    rintro _ _ ⟨rfl, rfl⟩
                    go_wp2_with fail
                    go_loop [11, 12] (fun s i => ∃ k : Nat, 1 ≤ k ∧ k ≤ ws.length ∧ i = .int .i64 k ∧ s = .string ⟨(joinB (ws.take k)).toArray⟩) (fun _ i => ws.length - (intOf i).toNat)
                    case atStart => exact ⟨1, by omega, by omega, rfl, by rw [HT0.out]⟩
                    case round =>
                      obtain ⟨k, hk1, hk, rfl, rfl⟩ := hrel
                      by_cases hlt : k < ws.length
                      · obtain ⟨_, ck⟩ := HSL.out k hlt
                        have hxk := HWX.out _ (List.getElem_mem hlt)
                        have htk : joinB (ws.take (k + 1)) = joinB (ws.take k) ++ 32 :: (ws.getD k []) := by
                          rw [List.take_succ_eq_append_getElem hlt, joinB_snoc _ _ (by intro hh; have := congrArg List.length hh; rw [List.length_take] at this; simp only [List.length_nil] at this; omega)]
                          simp [List.getD, hlt]
                        have hgl : (ws.getD k []).length ≤ 1000000 := by simpa [List.getD, hlt] using hxk
                        have hjl := joinB_le 1000000 (ws.take k) (fun x hx => HWX.out x (List.mem_of_mem_take hx))
                        have hjl2 : (joinB (ws.take k)).length ≤ 1000003000002 := by
                          refine Nat.le_trans hjl ?_
                          have : (ws.take k).length ≤ 1000001 := by rw [List.length_take]; omega
                          exact Nat.le_trans (Nat.mul_le_mul_right _ this) (by decide)
                        clear hjl hxk
                        have HTK := Lib.hid htk
                        clear htk
                        generalize ws.getD k [] = y at *
                        go_wp2_with fail
                        go_round
                        case rel => exact ⟨k + 1, by omega, by omega, by go_num, by rw [HTK.out] <;> simp⟩
                        case measure => simp [intOf]; omega
                      · obtain rfl : k = ws.length := by omega
                        rw [List.take_length, ← joinW_B]
                        go_wp2_with fail
                        exact bodyPost_ret (v := .tuple #[.string ⟨(joinW ws).toArray⟩, .string ⟨tx.toArray⟩, .bool true, .int .i64 0]) (by simp [results, Tryd.results57, go_sem]) rfl ⟨by rw [HR.out], hA.below⟩
                  · have ho := Bool.eq_false_iff.2 ho
                    rw [ho] at hV
                    have HR : Hid (readM l = ([], [], false, 5)) := Lib.hid (by rw [HRM.out, HRQ.out, if_neg ha, if_pos HY.out, ho, Bool.and_false] <;> rfl)
                    go_wp2_with fail
                    refine (hV _).mono ?_
                    rintro _ _ ⟨rfl, rfl⟩
                    go_wp2_with fail
                    exact bodyPost_ret (v := .tuple #[.string ⟨#[]⟩, .string ⟨#[]⟩, .bool false, .int .i64 5]) (by simp [results, Tryd.results57, go_sem]) rfl ⟨by rw [HR.out], hA.below⟩
                · have g2 : ((ws.length : Int) != 2) = true := by simp; omega
                  have HR : Hid (readM l = ([], [], false, 5)) := Lib.hid (by rw [HRM.out, HRQ.out, if_neg ha, if_pos HY.out, decide_eq_false h2, Bool.false_and] <;> rfl)
                  go_wp2_with fail
                  exact bodyPost_ret (v := .tuple #[.string ⟨#[]⟩, .string ⟨#[]⟩, .bool false, .int .i64 5]) (by simp [results, Tryd.results57, go_sem]) rfl ⟨by rw [HR.out], hA.below⟩
              · have gy : (a0 == [37, 89, 65, 77, 76]) = false := by simpa [yamlW] using hy
                by_cases ht : a0 = tagW
                · have gt : (a0 == [37, 84, 65, 71]) = true := by simpa [tagW] using ht
                  have HT := Lib.hid ht
                  clear ht
                  by_cases h3 : ws.length = 3
                  · have g3 : ((ws.length : Int) != 3) = false := by simp; omega
                    have c1 := HC1.out (by omega)
                    have c2 := HC2.out (by omega)
                    have hl1 := HL1.out (by omega)
                    have hl2 := HL2.out (by omega)
                    have hH := fun w => rhandled_c a1 w (by omega)
                    have hU := fun w => ruris_c a2 w (by omega)
                    by_cases ho : handledR a1 = true
                    · rw [ho] at hH
                      by_cases hu : urisR a2 = true
                      · rw [hu] at hU
                        have HR : Hid (readM l = (joinW ws, tx, true, 0)) := Lib.hid (by rw [HRM.out, HRQ.out, if_neg ha, if_neg hy, if_pos HT.out, ho, hu, decide_eq_true h3] <;> rfl)
                        clear HRQ
                        go_wp2_with fail
                        refine (hH _).mono ?_
                        rintro _ _ ⟨rfl, rfl⟩
                        go_wp2_with fail
                        refine (hU _).mono ?_
                        rintro _ _ ⟨rfl, rfl⟩
                        go_wp2_with fail
                        go_loop [11, 12] (fun s i => ∃ k : Nat, 1 ≤ k ∧ k ≤ ws.length ∧ i = .int .i64 k ∧ s = .string ⟨(joinB (ws.take k)).toArray⟩) (fun _ i => ws.length - (intOf i).toNat)
                        case atStart => exact ⟨1, by omega, by omega, rfl, by rw [HT0.out]⟩
                        case round =>
                          obtain ⟨k, hk1, hk, rfl, rfl⟩ := hrel
                          by_cases hlt : k < ws.length
                          · obtain ⟨_, ck⟩ := HSL.out k hlt
                            have hxk := HWX.out _ (List.getElem_mem hlt)
                            have htk : joinB (ws.take (k + 1)) = joinB (ws.take k) ++ 32 :: (ws.getD k []) := by
                              rw [List.take_succ_eq_append_getElem hlt, joinB_snoc _ _ (by intro hh; have := congrArg List.length hh; rw [List.length_take] at this; simp only [List.length_nil] at this; omega)]
                              simp [List.getD, hlt]
                            have hgl : (ws.getD k []).length ≤ 1000000 := by simpa [List.getD, hlt] using hxk
                            have hjl := joinB_le 1000000 (ws.take k) (fun x hx => HWX.out x (List.mem_of_mem_take hx))
                            have hjl2 : (joinB (ws.take k)).length ≤ 1000003000002 := by
                              refine Nat.le_trans hjl ?_
                              have : (ws.take k).length ≤ 1000001 := by rw [List.length_take]; omega
                              exact Nat.le_trans (Nat.mul_le_mul_right _ this) (by decide)
                            clear hjl hxk
                            have HTK := Lib.hid htk
                            clear htk
                            generalize ws.getD k [] = y at *
                            go_wp2_with fail
                            go_round
                            case rel => exact ⟨k + 1, by omega, by omega, by go_num, by rw [HTK.out] <;> simp⟩
                            case measure => simp [intOf]; omega
                          · obtain rfl : k = ws.length := by omega
                            rw [List.take_length, ← joinW_B]
                            go_wp2_with fail
                            exact bodyPost_ret (v := .tuple #[.string ⟨(joinW ws).toArray⟩, .string ⟨tx.toArray⟩, .bool true, .int .i64 0]) (by simp [results, Tryd.results57, go_sem]) rfl ⟨by rw [HR.out], hA.below⟩
                      · have hu := Bool.eq_false_iff.2 hu
                        rw [hu] at hU
                        have HR : Hid (readM l = ([], [], false, 5)) := Lib.hid (by rw [HRM.out, HRQ.out, if_neg ha, if_neg hy, if_pos HT.out, ho, hu, Bool.and_false, Bool.and_false] <;> rfl)
                        go_wp2_with fail
                        refine (hH _).mono ?_
                        rintro _ _ ⟨rfl, rfl⟩
                        go_wp2_with fail
                        refine (hU _).mono ?_
                        rintro _ _ ⟨rfl, rfl⟩
                        go_wp2_with fail
                        exact bodyPost_ret (v := .tuple #[.string ⟨#[]⟩, .string ⟨#[]⟩, .bool false, .int .i64 5]) (by simp [results, Tryd.results57, go_sem]) rfl ⟨by rw [HR.out], hA.below⟩
                    · have ho := Bool.eq_false_iff.2 ho
                      rw [ho] at hH
                      have HR : Hid (readM l = ([], [], false, 5)) := Lib.hid (by rw [HRM.out, HRQ.out, if_neg ha, if_neg hy, if_pos HT.out, ho, Bool.false_and, Bool.and_false] <;> rfl)
                      go_wp2_with fail
                      refine (hH _).mono ?_
                      rintro _ _ ⟨rfl, rfl⟩
                      go_wp2_with fail
                      exact bodyPost_ret (v := .tuple #[.string ⟨#[]⟩, .string ⟨#[]⟩, .bool false, .int .i64 5]) (by simp [results, Tryd.results57, go_sem]) rfl ⟨by rw [HR.out], hA.below⟩
                  · have g3 : ((ws.length : Int) != 3) = true := by simp; omega
                    have HR : Hid (readM l = ([], [], false, 5)) := Lib.hid (by rw [HRM.out, HRQ.out, if_neg ha, if_neg hy, if_pos HT.out, decide_eq_false h3, Bool.false_and] <;> rfl)
                    go_wp2_with fail
                    exact bodyPost_ret (v := .tuple #[.string ⟨#[]⟩, .string ⟨#[]⟩, .bool false, .int .i64 5]) (by simp [results, Tryd.results57, go_sem]) rfl ⟨by rw [HR.out], hA.below⟩
                · have gt : (a0 == [37, 84, 65, 71]) = false := by simpa [tagW] using ht
                  have HR : Hid (readM l = (joinW ws, tx, true, 0)) := Lib.hid (by rw [HRM.out, HRQ.out, if_neg ha, if_neg hy, if_neg ht] <;> rfl)
                  clear HRQ
                  go_wp2_with fail
                  go_loop [11, 12] (fun s i => ∃ k : Nat, 1 ≤ k ∧ k ≤ ws.length ∧ i = .int .i64 k ∧ s = .string ⟨(joinB (ws.take k)).toArray⟩) (fun _ i => ws.length - (intOf i).toNat)
                  case atStart => exact ⟨1, by omega, by omega, rfl, by rw [HT0.out]⟩
                  case round =>
                    obtain ⟨k, hk1, hk, rfl, rfl⟩ := hrel
                    by_cases hlt : k < ws.length
                    · obtain ⟨_, ck⟩ := HSL.out k hlt
                      have hxk := HWX.out _ (List.getElem_mem hlt)
                      have htk : joinB (ws.take (k + 1)) = joinB (ws.take k) ++ 32 :: (ws.getD k []) := by
                        rw [List.take_succ_eq_append_getElem hlt, joinB_snoc _ _ (by intro hh; have := congrArg List.length hh; rw [List.length_take] at this; simp only [List.length_nil] at this; omega)]
                        simp [List.getD, hlt]
                      have hgl : (ws.getD k []).length ≤ 1000000 := by simpa [List.getD, hlt] using hxk
                      have hjl := joinB_le 1000000 (ws.take k) (fun x hx => HWX.out x (List.mem_of_mem_take hx))
                      have hjl2 : (joinB (ws.take k)).length ≤ 1000003000002 := by
                        refine Nat.le_trans hjl ?_
                        have : (ws.take k).length ≤ 1000001 := by rw [List.length_take]; omega
                        exact Nat.le_trans (Nat.mul_le_mul_right _ this) (by decide)
                      clear hjl hxk
                      have HTK := Lib.hid htk
                      clear htk
                      generalize ws.getD k [] = y at *
                      go_wp2_with fail
                      go_round
                      case rel => exact ⟨k + 1, by omega, by omega, by go_num, by rw [HTK.out] <;> simp⟩
                      case measure => simp [intOf]; omega
                    · obtain rfl : k = ws.length := by omega
                      rw [List.take_length, ← joinW_B]
                      go_wp2_with fail
                      exact bodyPost_ret (v := .tuple #[.string ⟨(joinW ws).toArray⟩, .string ⟨tx.toArray⟩, .bool true, .int .i64 0]) (by simp [results, Tryd.results57, go_sem]) rfl ⟨by rw [HR.out], hA.below⟩
          · have hnk : ¬ noteAt l k := fun h => hw h.2.2.2
            rw [Bool.eq_false_iff.2 hw] at hW
            clear hr
            go_wp2_with fail
            refine (hW _).mono ?_
            rintro _ _ ⟨rfl, rfl⟩
            go_wp2_with fail
            go_round
            case rel => exact ⟨rfl, rfl, rfl, k + 1, by omega, by omega, by go_num, Lib.hid (fun j hj => by
              by_cases h : j = k
              · subst h; exact hnk
              · exact hN.out j (by omega))⟩
            case measure => simp [intOf]; omega
        · have g35 : ((byt l k : Int) == 35) = false := by rw [beq_eq_false_iff_ne]; omega
          have hnk : ¬ noteAt l k := fun h => hr h.2.2.1
          go_wp2_with fail
          go_round
          case rel => exact ⟨rfl, rfl, rfl, k + 1, by omega, by omega, by go_num, Lib.hid (fun j hj => by
            by_cases h : j = k
            · subst h; exact hnk
            · exact hN.out j (by omega))⟩
          case measure => simp [intOf]; omega
      · have hc : commentM l = -1 := comment_no (fun j _ => hN.out j (by omega))
        have HRD : Hid (readM l = restM l [] false) := Lib.hid (by rw [readM, if_neg (fun h => h.elim h0 (fun h => h h37)), hc, if_neg (by decide)])
        have hbd : ∃ t, l = 37 :: t := by
          cases l with
          | nil => exact absurd rfl h0
          | cons b t => exact ⟨t, by rw [show b = 37 from UInt8.toNat.inj h37]⟩
        obtain ⟨bd, hbdl⟩ : ∃ bd, bd = l := ⟨_, rfl⟩
        have HB : Hid (∃ t, bd = 37 :: t) := Lib.hid (by rw [hbdl]; exact hbd)
        have hbl : bd.length ≤ 1000000 := by rw [hbdl]; exact hs
        obtain ⟨tx, htx⟩ : ∃ tx : List UInt8, tx = [] := ⟨_, rfl⟩
        rw [show restM l [] false = restM bd tx false by rw [hbdl, htx]] at HRD
        go_wp2_with fail
        rw [show (⟨l.toArray⟩ : ByteArray) = ⟨bd.toArray⟩ by rw [hbdl], show (⟨#[]⟩ : ByteArray) = ⟨tx.toArray⟩ by rw [htx]]
        clear hc hbd h37 hbdl htx
        have hwl := wordsF_len bd []
        have hwn := words_black bd [] (by simp)
        have hW := fun w => rwords_c bd w (by omega)
        unfold RetRow at hW
        have hwl1 : (wordsM bd).length ≤ 1000001 := by have := hwl.1; unfold wordsM; omega
        have hwx : ∀ x ∈ wordsM bd, x.length ≤ 1000000 := fun x hx => by have := hwl.2 x hx; simp at this; omega
        have hfw : ∃ v r, wordsM bd = (37 :: v) :: r := by
          obtain ⟨t, ht⟩ := HB.out
          obtain ⟨v, r, hv⟩ := first_word t [37] (by simp)
          refine ⟨v, r, ?_⟩
          unfold wordsM
          rw [ht, wordsF, if_neg (by decide)]
          exact hv
        obtain ⟨v, r, hvr⟩ := hfw
        have hrr := right_eq hvr (fun u hu => (hwn u hu).1)
        have hn1 : 1 ≤ (wordsM bd).length := by rw [hvr]; simp
        have ht1 : joinB ((wordsM bd).take 1) = (wordsM bd).getD 0 [] := by rw [hvr]; rfl
        have HRM : Hid (readM l = if rightM (wordsM bd) then (joinW (wordsM bd), tx, false, 0) else ([], [], false, 5)) := Lib.hid (by rw [HRD.out]; rfl)
        clear hwl hwn hvr HRD
        generalize wordsM bd = ws at *
        have HRR0 := Lib.hid hrr
        have HT1 := Lib.hid ht1
        have HWX := Lib.hid hwx
        clear hrr ht1 hwx
        refine (hW _).mono ?_
        rintro e w1 ⟨aw, cw, rfl, hown, hb⟩
        have hA : At w w1 := by first | exact hA.step hb | exact (hA.drewN _).step hb
        obtain ⟨A, rfl, hsl⟩ := own_at hown (by omega)
        rw [strs_length]
        have HSL : Hid (∀ i, i < ws.length → A < w1.heap.size ∧ w1.cell? ⟨A, i, none⟩ = some (.string ⟨(ws.getD i []).toArray⟩)) := Lib.hid (fun i hi => sl_at hsl hi)
        clear hb hown hsl hW
        obtain ⟨_, c0⟩ := HSL.out 0 (by omega)
        have gn : ((ws.length : Int) == 0) = false := by rw [beq_eq_false_iff_ne]; omega
        have HRR : Hid (rightM ws = rightR ws) := HRR0
        clear HRR0
        obtain ⟨a0, e0⟩ : ∃ a, a = ws.getD 0 [] := ⟨_, rfl⟩
        obtain ⟨a1, e1⟩ : ∃ a, a = ws.getD 1 [] := ⟨_, rfl⟩
        obtain ⟨a2, e2⟩ : ∃ a, a = ws.getD 2 [] := ⟨_, rfl⟩
        have HRQ : Hid (rightM ws = if a0 = [37] then false else if a0 = yamlW then decide (ws.length = 2) && oneM a1 else if a0 = tagW then decide (ws.length = 3) && (handledR a1 && urisR a2) else true) := Lib.hid (by rw [HRR.out, e0, e1, e2]; rfl)
        clear HRR
        rw [← e0] at c0
        have HT0 : Hid (joinB (List.take 1 ws) = a0) := Lib.hid (by rw [HT1.out, e0])
        clear HT1
        have hl1 : 1 < ws.length → a1.length ≤ 1000000 := fun h => by rw [e1]; exact HWX.out _ (by simp [List.getD, h])
        have hl2 : 2 < ws.length → a2.length ≤ 1000000 := fun h => by rw [e2]; exact HWX.out _ (by simp [List.getD, h])
        have hc1 : 1 < ws.length → w1.cell? ⟨A, 1, none⟩ = some (.string ⟨a1.toArray⟩) := fun h => by rw [e1]; exact (HSL.out 1 h).2
        have hc2 : 2 < ws.length → w1.cell? ⟨A, 2, none⟩ = some (.string ⟨a2.toArray⟩) := fun h => by rw [e2]; exact (HSL.out 2 h).2
        have HC1 := Lib.hid hc1
        have HC2 := Lib.hid hc2
        have HL1 := Lib.hid hl1
        have HL2 := Lib.hid hl2
        clear e0 e1 e2 hc1 hc2 hl1 hl2
        by_cases ha : a0 = [37]
        · have ga : (a0 == [37]) = true := by simp [ha]
          have HR : Hid (readM l = ([], [], false, 5)) := Lib.hid (by rw [HRM.out, HRQ.out, if_pos ha] <;> rfl)
          go_wp2_with fail
          exact bodyPost_ret (v := .tuple #[.string ⟨#[]⟩, .string ⟨#[]⟩, .bool false, .int .i64 5]) (by simp [results, Tryd.results57, go_sem]) rfl ⟨by rw [HR.out], hA.below⟩
        · have ga : (a0 == [37]) = false := by simp [ha]
          by_cases hy : a0 = yamlW
          · have gy : (a0 == [37, 89, 65, 77, 76]) = true := by simpa [yamlW] using hy
            have HY := Lib.hid hy
            clear hy
            by_cases h2 : ws.length = 2
            · have g2 : ((ws.length : Int) != 2) = false := by simp; omega
              have c1 := HC1.out (by omega)
              have hlv := HL1.out (by omega)
              have hV := fun w => version_c a1 w (by omega)
              by_cases ho : oneM a1 = true
              · rw [ho] at hV
                have HR : Hid (readM l = (joinW ws, tx, false, 0)) := Lib.hid (by rw [HRM.out, HRQ.out, if_neg ha, if_pos HY.out, ho, decide_eq_true h2] <;> rfl)
                clear HRQ
                go_wp2_with fail
                refine (hV _).mono ?_
                rintro _ _ ⟨rfl, rfl⟩
                go_wp2_with fail
                go_loop [11, 12] (fun s i => ∃ k : Nat, 1 ≤ k ∧ k ≤ ws.length ∧ i = .int .i64 k ∧ s = .string ⟨(joinB (ws.take k)).toArray⟩) (fun _ i => ws.length - (intOf i).toNat)
                case atStart => exact ⟨1, by omega, by omega, rfl, by rw [HT0.out]⟩
                case round =>
                  obtain ⟨k, hk1, hk, rfl, rfl⟩ := hrel
                  by_cases hlt : k < ws.length
                  · obtain ⟨_, ck⟩ := HSL.out k hlt
                    have hxk := HWX.out _ (List.getElem_mem hlt)
                    have htk : joinB (ws.take (k + 1)) = joinB (ws.take k) ++ 32 :: (ws.getD k []) := by
                      rw [List.take_succ_eq_append_getElem hlt, joinB_snoc _ _ (by intro hh; have := congrArg List.length hh; rw [List.length_take] at this; simp only [List.length_nil] at this; omega)]
                      simp [List.getD, hlt]
                    have hgl : (ws.getD k []).length ≤ 1000000 := by simpa [List.getD, hlt] using hxk
                    have hjl := joinB_le 1000000 (ws.take k) (fun x hx => HWX.out x (List.mem_of_mem_take hx))
                    have hjl2 : (joinB (ws.take k)).length ≤ 1000003000002 := by
                      refine Nat.le_trans hjl ?_
                      have : (ws.take k).length ≤ 1000001 := by rw [List.length_take]; omega
                      exact Nat.le_trans (Nat.mul_le_mul_right _ this) (by decide)
                    clear hjl hxk
                    have HTK := Lib.hid htk
                    clear htk
                    generalize ws.getD k [] = y at *
                    go_wp2_with fail
                    go_round
                    case rel => exact ⟨k + 1, by omega, by omega, by go_num, by rw [HTK.out] <;> simp⟩
                    case measure => simp [intOf]; omega
                  · obtain rfl : k = ws.length := by omega
                    rw [List.take_length, ← joinW_B]
                    go_wp2_with fail
                    exact bodyPost_ret (v := .tuple #[.string ⟨(joinW ws).toArray⟩, .string ⟨tx.toArray⟩, .bool false, .int .i64 0]) (by simp [results, Tryd.results57, go_sem]) rfl ⟨by rw [HR.out], hA.below⟩
              · have ho := Bool.eq_false_iff.2 ho
                rw [ho] at hV
                have HR : Hid (readM l = ([], [], false, 5)) := Lib.hid (by rw [HRM.out, HRQ.out, if_neg ha, if_pos HY.out, ho, Bool.and_false] <;> rfl)
                go_wp2_with fail
                refine (hV _).mono ?_
                rintro _ _ ⟨rfl, rfl⟩
                go_wp2_with fail
                exact bodyPost_ret (v := .tuple #[.string ⟨#[]⟩, .string ⟨#[]⟩, .bool false, .int .i64 5]) (by simp [results, Tryd.results57, go_sem]) rfl ⟨by rw [HR.out], hA.below⟩
            · have g2 : ((ws.length : Int) != 2) = true := by simp; omega
              have HR : Hid (readM l = ([], [], false, 5)) := Lib.hid (by rw [HRM.out, HRQ.out, if_neg ha, if_pos HY.out, decide_eq_false h2, Bool.false_and] <;> rfl)
              go_wp2_with fail
              exact bodyPost_ret (v := .tuple #[.string ⟨#[]⟩, .string ⟨#[]⟩, .bool false, .int .i64 5]) (by simp [results, Tryd.results57, go_sem]) rfl ⟨by rw [HR.out], hA.below⟩
          · have gy : (a0 == [37, 89, 65, 77, 76]) = false := by simpa [yamlW] using hy
            by_cases ht : a0 = tagW
            · have gt : (a0 == [37, 84, 65, 71]) = true := by simpa [tagW] using ht
              have HT := Lib.hid ht
              clear ht
              by_cases h3 : ws.length = 3
              · have g3 : ((ws.length : Int) != 3) = false := by simp; omega
                have c1 := HC1.out (by omega)
                have c2 := HC2.out (by omega)
                have hl1 := HL1.out (by omega)
                have hl2 := HL2.out (by omega)
                have hH := fun w => rhandled_c a1 w (by omega)
                have hU := fun w => ruris_c a2 w (by omega)
                by_cases ho : handledR a1 = true
                · rw [ho] at hH
                  by_cases hu : urisR a2 = true
                  · rw [hu] at hU
                    have HR : Hid (readM l = (joinW ws, tx, false, 0)) := Lib.hid (by rw [HRM.out, HRQ.out, if_neg ha, if_neg hy, if_pos HT.out, ho, hu, decide_eq_true h3] <;> rfl)
                    clear HRQ
                    go_wp2_with fail
                    refine (hH _).mono ?_
                    rintro _ _ ⟨rfl, rfl⟩
                    go_wp2_with fail
                    refine (hU _).mono ?_
                    rintro _ _ ⟨rfl, rfl⟩
                    go_wp2_with fail
                    go_loop [11, 12] (fun s i => ∃ k : Nat, 1 ≤ k ∧ k ≤ ws.length ∧ i = .int .i64 k ∧ s = .string ⟨(joinB (ws.take k)).toArray⟩) (fun _ i => ws.length - (intOf i).toNat)
                    case atStart => exact ⟨1, by omega, by omega, rfl, by rw [HT0.out]⟩
                    case round =>
                      obtain ⟨k, hk1, hk, rfl, rfl⟩ := hrel
                      by_cases hlt : k < ws.length
                      · obtain ⟨_, ck⟩ := HSL.out k hlt
                        have hxk := HWX.out _ (List.getElem_mem hlt)
                        have htk : joinB (ws.take (k + 1)) = joinB (ws.take k) ++ 32 :: (ws.getD k []) := by
                          rw [List.take_succ_eq_append_getElem hlt, joinB_snoc _ _ (by intro hh; have := congrArg List.length hh; rw [List.length_take] at this; simp only [List.length_nil] at this; omega)]
                          simp [List.getD, hlt]
                        have hgl : (ws.getD k []).length ≤ 1000000 := by simpa [List.getD, hlt] using hxk
                        have hjl := joinB_le 1000000 (ws.take k) (fun x hx => HWX.out x (List.mem_of_mem_take hx))
                        have hjl2 : (joinB (ws.take k)).length ≤ 1000003000002 := by
                          refine Nat.le_trans hjl ?_
                          have : (ws.take k).length ≤ 1000001 := by rw [List.length_take]; omega
                          exact Nat.le_trans (Nat.mul_le_mul_right _ this) (by decide)
                        clear hjl hxk
                        have HTK := Lib.hid htk
                        clear htk
                        generalize ws.getD k [] = y at *
                        go_wp2_with fail
                        go_round
                        case rel => exact ⟨k + 1, by omega, by omega, by go_num, by rw [HTK.out] <;> simp⟩
                        case measure => simp [intOf]; omega
                      · obtain rfl : k = ws.length := by omega
                        rw [List.take_length, ← joinW_B]
                        go_wp2_with fail
                        exact bodyPost_ret (v := .tuple #[.string ⟨(joinW ws).toArray⟩, .string ⟨tx.toArray⟩, .bool false, .int .i64 0]) (by simp [results, Tryd.results57, go_sem]) rfl ⟨by rw [HR.out], hA.below⟩
                  · have hu := Bool.eq_false_iff.2 hu
                    rw [hu] at hU
                    have HR : Hid (readM l = ([], [], false, 5)) := Lib.hid (by rw [HRM.out, HRQ.out, if_neg ha, if_neg hy, if_pos HT.out, ho, hu, Bool.and_false, Bool.and_false] <;> rfl)
                    go_wp2_with fail
                    refine (hH _).mono ?_
                    rintro _ _ ⟨rfl, rfl⟩
                    go_wp2_with fail
                    refine (hU _).mono ?_
                    rintro _ _ ⟨rfl, rfl⟩
                    go_wp2_with fail
                    exact bodyPost_ret (v := .tuple #[.string ⟨#[]⟩, .string ⟨#[]⟩, .bool false, .int .i64 5]) (by simp [results, Tryd.results57, go_sem]) rfl ⟨by rw [HR.out], hA.below⟩
                · have ho := Bool.eq_false_iff.2 ho
                  rw [ho] at hH
                  have HR : Hid (readM l = ([], [], false, 5)) := Lib.hid (by rw [HRM.out, HRQ.out, if_neg ha, if_neg hy, if_pos HT.out, ho, Bool.false_and, Bool.and_false] <;> rfl)
                  go_wp2_with fail
                  refine (hH _).mono ?_
                  rintro _ _ ⟨rfl, rfl⟩
                  go_wp2_with fail
                  exact bodyPost_ret (v := .tuple #[.string ⟨#[]⟩, .string ⟨#[]⟩, .bool false, .int .i64 5]) (by simp [results, Tryd.results57, go_sem]) rfl ⟨by rw [HR.out], hA.below⟩
              · have g3 : ((ws.length : Int) != 3) = true := by simp; omega
                have HR : Hid (readM l = ([], [], false, 5)) := Lib.hid (by rw [HRM.out, HRQ.out, if_neg ha, if_neg hy, if_pos HT.out, decide_eq_false h3, Bool.false_and] <;> rfl)
                go_wp2_with fail
                exact bodyPost_ret (v := .tuple #[.string ⟨#[]⟩, .string ⟨#[]⟩, .bool false, .int .i64 5]) (by simp [results, Tryd.results57, go_sem]) rfl ⟨by rw [HR.out], hA.below⟩
            · have gt : (a0 == [37, 84, 65, 71]) = false := by simpa [tagW] using ht
              have HR : Hid (readM l = (joinW ws, tx, false, 0)) := Lib.hid (by rw [HRM.out, HRQ.out, if_neg ha, if_neg hy, if_neg ht] <;> rfl)
              clear HRQ
              go_wp2_with fail
              go_loop [11, 12] (fun s i => ∃ k : Nat, 1 ≤ k ∧ k ≤ ws.length ∧ i = .int .i64 k ∧ s = .string ⟨(joinB (ws.take k)).toArray⟩) (fun _ i => ws.length - (intOf i).toNat)
              case atStart => exact ⟨1, by omega, by omega, rfl, by rw [HT0.out]⟩
              case round =>
                obtain ⟨k, hk1, hk, rfl, rfl⟩ := hrel
                by_cases hlt : k < ws.length
                · obtain ⟨_, ck⟩ := HSL.out k hlt
                  have hxk := HWX.out _ (List.getElem_mem hlt)
                  have htk : joinB (ws.take (k + 1)) = joinB (ws.take k) ++ 32 :: (ws.getD k []) := by
                    rw [List.take_succ_eq_append_getElem hlt, joinB_snoc _ _ (by intro hh; have := congrArg List.length hh; rw [List.length_take] at this; simp only [List.length_nil] at this; omega)]
                    simp [List.getD, hlt]
                  have hgl : (ws.getD k []).length ≤ 1000000 := by simpa [List.getD, hlt] using hxk
                  have hjl := joinB_le 1000000 (ws.take k) (fun x hx => HWX.out x (List.mem_of_mem_take hx))
                  have hjl2 : (joinB (ws.take k)).length ≤ 1000003000002 := by
                    refine Nat.le_trans hjl ?_
                    have : (ws.take k).length ≤ 1000001 := by rw [List.length_take]; omega
                    exact Nat.le_trans (Nat.mul_le_mul_right _ this) (by decide)
                  clear hjl hxk
                  have HTK := Lib.hid htk
                  clear htk
                  generalize ws.getD k [] = y at *
                  go_wp2_with fail
                  go_round
                  case rel => exact ⟨k + 1, by omega, by omega, by go_num, by rw [HTK.out] <;> simp⟩
                  case measure => simp [intOf]; omega
                · obtain rfl : k = ws.length := by omega
                  rw [List.take_length, ← joinW_B]
                  go_wp2_with fail
                  exact bodyPost_ret (v := .tuple #[.string ⟨(joinW ws).toArray⟩, .string ⟨tx.toArray⟩, .bool false, .int .i64 0]) (by simp [results, Tryd.results57, go_sem]) rfl ⟨by rw [HR.out], hA.below⟩
  · have g37 : ((byt l 0 : Int) != 37) = true := by simp; omega
    have HR : Hid (readM l = ([], [], false, 5)) := Lib.hid (by rw [readM, if_pos (.inr h37)])
    clear h37
    go_enter Tryd.func57, Tryd.ntmps57
    go_wp2_with fail
    exact bodyPost_ret (v := .tuple #[.string ⟨#[]⟩, .string ⟨#[]⟩, .bool false, .int .i64 5]) (by simp [results, Tryd.results57, go_sem]) rfl ⟨by rw [HR.out], hA.below⟩
end Go.Proofs.YtjnmgmepolpcdaaDoor
