/- The walk of the document's answer of chapter 15. -/
import Derived.Test.YtjnmgmepolpcdaaDoorWRefNote0
import Derived.Test.YtjnmgmepolpcdaaDoorFrame
import Derived.Test.YtjnmgmepolpcdaaDoorNoteMem
import Derived.Deep.DeepCutAuto
namespace Go.Proofs.YtjnmgmepolpcdaaDoor
open Go.RowKit U Go.Proofs

attribute [local go_sem] ite_min' ite_max'
/-- It returns comments in memory of its own, and more. -/
def NotesRet (R : Notes × Bool × Int × Int) (w : World) (e : Ending) (w' : World) : Prop :=
  ∃ v, e = .returned (.tuple #[v, .bool R.2.1, .int .i64 R.2.2.1, .int .i64 R.2.2.2]) ∧ w'.ownsRow w.heap.size 38 2 v R.1.length (cmts R.1) ∧ Below w.heap.size w w'
theorem notes_no (w w' : World) (b : Bool) (p k : Int) (hb : Below w.heap.size w w') : NotesRet ([], b, p, k) w (.returned (.tuple #[.slice none 0 0, .bool b, .int .i64 p, .int .i64 k])) w' :=
  ⟨_, rfl, World.ownsRow_nil _ _ _ _, hb⟩
def metN (v : Value) : Nat := match v with | .bool true => 1 | _ => 0
theorem ret_boolv {a b : Bool} (h : a = b) : Value.bool a = Value.bool b := by rw [h]
set_option maxRecDepth 100000 in
set_option maxHeartbeats 16000000 in
theorem between_c (l : List UInt8) (a : Int) (n : Int) (within : Bool) (w : World) (hs : l.length ≤ 1000000) :
    Calls Tryd.prog 63 #[.string ⟨l.toArray⟩, .int .i64 a, .int .i64 n, .bool within] w (NotesRet (refR l (heldM l a) n within (metM l (heldM l a)) (heldM l a) [] false) w) := by
  have ha := heldM_le l a
  have han : (heldM l a : Int) = max 0 (min a (l.length : Int)) := by unfold heldM; omega
  generalize heldM l a = b at *
  have HB := Lib.hid han
  clear han
  have hRb := fun w => rrow_n l b w (by omega) ha
  obtain ⟨R, hR⟩ : ∃ R, R = refR l b n within (metM l b) b [] false := ⟨_, rfl⟩
  rw [← hR]
  have HR := Lib.hid hR
  clear hR
  have hmet : metM l b = ((b : Int) == (rowFrom l b : Int)) := by
    unfold metM
    rw [Bool.eq_iff_iff]; simp; omega
  have hrb := rowFrom_le l b
  have HM := Lib.hid hmet
  clear hmet
  go_enter Tryd.func63, Tryd.ntmps63
  go_wp2_with fail
  rw [← HB.out]
  refine (hRb _).mono ?_
  rintro e w1 ⟨rfl, rfl⟩
  go_wp2_with fail
  go_loopw [12, 13, 15, 16, 17] (fun o r sm x m wr => ∃ (p q : Nat) (met same : Bool) (acc : Notes), b ≤ p ∧ p ≤ l.length ∧ x = .int .i64 p ∧ r = .int .i64 q ∧ m = .bool met ∧ sm = .bool same ∧ acc.length ≤ p ∧
      wr.ownsRow w.heap.size 38 2 o acc.length (cmts acc) ∧ Below w.heap.size w wr ∧ Hid (met = false → q = rowFrom l p) ∧ Hid (met = true → rowFrom l p = p) ∧ Hid (refR l b n within met p acc same = R)) (fun _ _ _ x m _ => 2 * (l.length - (intOf x).toNat) + metN m)
  case atStart => exact ⟨b, rowFrom l b, metM l b, false, [], Nat.le_refl _, ha, rfl, rfl, by rw [HM.out], rfl, Nat.zero_le _, World.ownsRow_nil _ _ _ _, Below.refl _ _, Lib.hid (fun _ => rfl), Lib.hid (fun h => by unfold metM at h; simpa using h), Lib.hid HR.out.symm⟩
  case round =>
    obtain ⟨p, q, met, same, acc, hbp, hp, rfl, rfl, rfl, rfl, hacc, hown, hbw, HQ, HF, HP⟩ := hrel
    by_cases hlt : p < l.length
    · go_upto_if 41 with fail
      go_cut [13, 17] (fun r m wx => r = .int .i64 (rowFrom l p) ∧ m = .bool false ∧ wx = wr ∧ Hid (refR l b n within false p acc same = R))
      case first =>
        cases met with
        | false =>
          have hq := HQ.out rfl
          subst hq
          go_wp2_with fail
          go_meet
          exact ⟨rfl, rfl, rfl, HP⟩
        | true =>
          have hrf := HF.out rfl
          have hmt := HP.out
          rw [refR_met _ _ _ _ _ _ _ hlt] at hmt
          have hRp := fun w => rrow_n l p w (by omega) hp
          have hKp := fun w => rkind_n l p w (by omega) hp
          have hIp := fun w => rin_n l p w (by omega) hp
          have hft := from_le_to l p
          have htl := rowTo_le hp
          have hfr := first_row (l := l) (rowFrom l p)
          rw [rowTo_from hp] at hfr
          have hTp := fun w => tabin_c l (rowFrom l p) (rowTo l p) w (by omega) hfr htl
          have hFp := fun w => first_c l (rowFrom l p) (rowTo l p) w (by omega) hft htl
          have hfm : firstM l (rowFrom l p) (rowTo l p) = rowFrom l p + run whN l (rowFrom l p) := by unfold firstM; omega
          rw [hfm] at hFp
          clear hfm hfr
          generalize rowFrom l p + run whN l (rowFrom l p) = fm at *
          generalize tabF l (run whN l (rowFrom l p)) (rowFrom l p) = tb at *
          generalize rowTo l p = t at *
          generalize inM l p = i at *
          have hrf2 := Lib.hid hrf
          generalize rowFrom l p = f at *
          clear hrf HF HQ HP
          have hkr : 1 ≤ kindM l p ∧ kindM l p ≤ 5 := kindF_range _ _
          generalize kindM l p = k at *
          have HMT := Lib.hid hmt
          clear hmt
          by_cases h3 : k = 3
          · subst h3
            cases within with
            | false =>
              have HE : Hid (R = (acc, same, (p : Int), 0)) := Lib.hid (by rw [← HMT.out, if_pos (.inl rfl), if_neg (fun h => by cases h.1)])
              clear HMT
              go_wp2_with fail
              refine (hRp _).mono ?_
              rintro e w1 ⟨rfl, rfl⟩
              go_wp2_with fail
              refine (hKp _).mono ?_
              rintro e w1 ⟨rfl, rfl⟩
              go_wp2_with fail
              exact bodyPost_ret (v := .tuple #[_, .bool same, .int .i64 p, .int .i64 0]) (by simp [results, Tryd.results63, go_sem]; rfl) rfl ⟨_, by rw [HE.out], by rw [HE.out]; exact hown, hbw⟩
            | true =>
              by_cases hpb : p = b
              · have HE : Hid (R = (acc, same, (p : Int), 0)) := Lib.hid (by rw [← HMT.out, if_pos (.inl rfl), if_neg (fun h => h.2 hpb)])
                have gpb : ((p : Int) != (b : Int)) = false := by rw [hpb]; simp
                clear HMT hpb
                go_wp2_with fail
                refine (hRp _).mono ?_
                rintro e w1 ⟨rfl, rfl⟩
                go_wp2_with fail
                refine (hKp _).mono ?_
                rintro e w1 ⟨rfl, rfl⟩
                go_wp2_with fail
                exact bodyPost_ret (v := .tuple #[_, .bool same, .int .i64 p, .int .i64 0]) (by simp [results, Tryd.results63, go_sem]; rfl) rfl ⟨_, by rw [HE.out], by rw [HE.out]; exact hown, hbw⟩
              · have HE : Hid (R = ([], false, (p : Int), 5)) := Lib.hid (by rw [← HMT.out, if_pos (.inl rfl), if_pos ⟨rfl, hpb⟩])
                have gpb : ((p : Int) != (b : Int)) = true := by simp; omega
                clear HMT hpb
                go_wp2_with fail
                refine (hRp _).mono ?_
                rintro e w1 ⟨rfl, rfl⟩
                go_wp2_with fail
                refine (hKp _).mono ?_
                rintro e w1 ⟨rfl, rfl⟩
                go_wp2_with fail
                exact bodyPost_ret (v := .tuple #[.slice none 0 0, .bool false, .int .i64 ((p : Int)), .int .i64 5]) (by simp [results, Tryd.results63, go_sem]) rfl (by rw [HE.out]; exact notes_no _ _ _ _ _ hbw)
          · have k3 : ((k : Int) == 3) = false := by rw [beq_eq_false_iff_ne]; omega
            by_cases h4 : k = 4
            · subst h4
              cases within with
              | false =>
                have HE : Hid (R = (acc, same, (p : Int), 0)) := Lib.hid (by rw [← HMT.out, if_pos (.inr rfl), if_neg (fun h => by cases h.1)])
                clear HMT
                go_wp2_with fail
                refine (hRp _).mono ?_
                rintro e w1 ⟨rfl, rfl⟩
                go_wp2_with fail
                refine (hKp _).mono ?_
                rintro e w1 ⟨rfl, rfl⟩
                go_wp2_with fail
                exact bodyPost_ret (v := .tuple #[_, .bool same, .int .i64 p, .int .i64 0]) (by simp [results, Tryd.results63, go_sem]; rfl) rfl ⟨_, by rw [HE.out], by rw [HE.out]; exact hown, hbw⟩
              | true =>
                by_cases hpb : p = b
                · have HE : Hid (R = (acc, same, (p : Int), 0)) := Lib.hid (by rw [← HMT.out, if_pos (.inr rfl), if_neg (fun h => h.2 hpb)])
                  have gpb : ((p : Int) != (b : Int)) = false := by rw [hpb]; simp
                  clear HMT hpb
                  go_wp2_with fail
                  refine (hRp _).mono ?_
                  rintro e w1 ⟨rfl, rfl⟩
                  go_wp2_with fail
                  refine (hKp _).mono ?_
                  rintro e w1 ⟨rfl, rfl⟩
                  go_wp2_with fail
                  exact bodyPost_ret (v := .tuple #[_, .bool same, .int .i64 p, .int .i64 0]) (by simp [results, Tryd.results63, go_sem]; rfl) rfl ⟨_, by rw [HE.out], by rw [HE.out]; exact hown, hbw⟩
                · have HE : Hid (R = ([], false, (p : Int), 5)) := Lib.hid (by rw [← HMT.out, if_pos (.inr rfl), if_pos ⟨rfl, hpb⟩])
                  have gpb : ((p : Int) != (b : Int)) = true := by simp; omega
                  clear HMT hpb
                  go_wp2_with fail
                  refine (hRp _).mono ?_
                  rintro e w1 ⟨rfl, rfl⟩
                  go_wp2_with fail
                  refine (hKp _).mono ?_
                  rintro e w1 ⟨rfl, rfl⟩
                  go_wp2_with fail
                  exact bodyPost_ret (v := .tuple #[.slice none 0 0, .bool false, .int .i64 ((p : Int)), .int .i64 5]) (by simp [results, Tryd.results63, go_sem]) rfl (by rw [HE.out]; exact notes_no _ _ _ _ _ hbw)
            · have k4 : ((k : Int) == 4) = false := by rw [beq_eq_false_iff_ne]; omega
              by_cases h5 : k = 5
              · subst h5
                cases within with
                | false =>
                  by_cases htb : 0 ≤ tb
                  · have HE : Hid (R = ([], false, tb, 4)) := Lib.hid (by rw [← HMT.out, if_neg (by omega), if_pos ⟨rfl, rfl, htb⟩])
                    clear HMT
                    go_wp2_with fail
                    refine (hRp _).mono ?_
                    rintro e w1 ⟨rfl, rfl⟩
                    go_wp2_with fail
                    refine (hKp _).mono ?_
                    rintro e w1 ⟨rfl, rfl⟩
                    go_wp2_with fail
                    refine (hTp _).mono ?_
                    rintro e w1 ⟨rfl, rfl⟩
                    go_wp2_with fail
                    exact bodyPost_ret (v := .tuple #[.slice none 0 0, .bool false, .int .i64 (tb), .int .i64 4]) (by simp [results, Tryd.results63, go_sem]) rfl (by rw [HE.out]; exact notes_no _ _ _ _ _ hbw)
                  · have HP : Hid (refR l b n false false p acc same = R) := Lib.hid (by rw [← HMT.out, if_neg (by omega), if_neg (fun h => htb h.2.2), if_neg (fun h => by cases h.2.1)])
                    clear HMT
                    go_wp2_with fail
                    refine (hRp _).mono ?_
                    rintro e w1 ⟨rfl, rfl⟩
                    go_wp2_with fail
                    refine (hKp _).mono ?_
                    rintro e w1 ⟨rfl, rfl⟩
                    go_wp2_with fail
                    refine (hTp _).mono ?_
                    rintro e w1 ⟨rfl, rfl⟩
                    go_wp2_with fail
                    go_meet
                    exact ⟨rfl, rfl, rfl, HP⟩
                | true =>
                  by_cases hpb : p = b
                  · have HP : Hid (refR l b n true false p acc same = R) := Lib.hid (by rw [← HMT.out, if_neg (by omega), if_neg (fun h => by cases h.2.1), if_neg (fun h => h.2.2.1 hpb)])
                    have gpb : ((p : Int) != (b : Int)) = false := by rw [hpb]; simp
                    clear HMT hpb
                    go_wp2_with fail
                    refine (hRp _).mono ?_
                    rintro e w1 ⟨rfl, rfl⟩
                    go_wp2_with fail
                    refine (hKp _).mono ?_
                    rintro e w1 ⟨rfl, rfl⟩
                    go_wp2_with fail
                    go_meet
                    exact ⟨rfl, rfl, rfl, HP⟩
                  · have gpb : ((p : Int) != (b : Int)) = true := by simp; omega
                    by_cases hin : (i : Int) ≤ n
                    · have HE : Hid (R = ([], false, (fm : Int), 5)) := Lib.hid (by rw [← HMT.out, if_neg (by omega), if_neg (fun h => by cases h.2.1), if_pos ⟨rfl, rfl, hpb, hin⟩])
                      clear HMT hpb
                      go_wp2_with fail
                      refine (hRp _).mono ?_
                      rintro e w1 ⟨rfl, rfl⟩
                      go_wp2_with fail
                      refine (hKp _).mono ?_
                      rintro e w1 ⟨rfl, rfl⟩
                      go_wp2_with fail
                      refine (hIp _).mono ?_
                      rintro e w1 ⟨rfl, rfl⟩
                      go_wp2_with fail
                      refine (hFp _).mono ?_
                      rintro e w1 ⟨rfl, rfl⟩
                      go_wp2_with fail
                      exact bodyPost_ret (v := .tuple #[.slice none 0 0, .bool false, .int .i64 ((fm : Int)), .int .i64 5]) (by simp [results, Tryd.results63, go_sem]) rfl (by rw [HE.out]; exact notes_no _ _ _ _ _ hbw)
                    · have HP : Hid (refR l b n true false p acc same = R) := Lib.hid (by rw [← HMT.out, if_neg (by omega), if_neg (fun h => by cases h.2.1), if_neg (fun h => hin h.2.2.2)])
                      clear HMT hpb
                      go_wp2_with fail
                      refine (hRp _).mono ?_
                      rintro e w1 ⟨rfl, rfl⟩
                      go_wp2_with fail
                      refine (hKp _).mono ?_
                      rintro e w1 ⟨rfl, rfl⟩
                      go_wp2_with fail
                      refine (hIp _).mono ?_
                      rintro e w1 ⟨rfl, rfl⟩
                      go_wp2_with fail
                      go_meet
                      exact ⟨rfl, rfl, rfl, HP⟩
              · have k5 : ((k : Int) == 5) = false := by rw [beq_eq_false_iff_ne]; omega
                have HP : Hid (refR l b n within false p acc same = R) := Lib.hid (by rw [← HMT.out, if_neg (by omega), if_neg (fun h => h5 h.1), if_neg (fun h => h5 h.1)])
                clear h3 h4 h5 HMT
                go_wp2_with fail
                refine (hRp _).mono ?_
                rintro e w1 ⟨rfl, rfl⟩
                go_wp2_with fail
                refine (hKp _).mono ?_
                rintro e w1 ⟨rfl, rfl⟩
                go_wp2_with fail
                go_meet
                exact ⟨rfl, rfl, rfl, HP⟩
      case rest =>
        obtain ⟨rfl, rfl, rfl, HP⟩ := hcut
        clear HQ HF
        have hin := HP.out
        rw [refR_in _ _ _ _ _ _ _ hlt] at hin
        have hW := fun w => rwhite_c (byt l p) w (byt_lt l p)
        cases hw : whN (byt l p) with
        | true =>
          have h10 : byt l p ≠ 10 := (notFeed_iff _).1 (wh_notFeed hw)
          have hnx := rowFrom_next h10
          rw [hw] at hW
          have HP2 : Hid (refR l b n within false (p + 1) acc same = R) := Lib.hid (by rw [← hin, if_pos hw])
          clear hin hw h10 HP
          go_wp2_with fail
          refine (hW _).mono ?_
          rintro e w1 ⟨rfl, rfl⟩
          go_wp2_with fail
          go_roundw
          case rel => exact ⟨p + 1, rowFrom l p, false, same, acc, by omega, by omega, by go_num, rfl, rfl, rfl, by omega, hown, hbw, Lib.hid (fun _ => hnx.symm), Lib.hid (fun h => by cases h), HP2⟩
          case measure => simp [intOf, metN]; omega
        | false =>
          rw [hw] at hW
          by_cases h10 : byt l p = 10
          · have hnx := rowFrom_feed h10
            have HP2 : Hid (refR l b n within true (p + 1) acc same = R) := Lib.hid (by rw [← hin, if_neg (by rw [hw]; decide), if_pos h10])
            have g10 : ((byt l p : Int) == 10) = true := by rw [h10]; rfl
            clear hin hw h10 HP
            go_wp2_with fail
            refine (hW _).mono ?_
            rintro e w1 ⟨rfl, rfl⟩
            go_wp2_with fail
            go_roundw
            case rel => exact ⟨p + 1, rowFrom l p, true, same, acc, by omega, by omega, by go_num, rfl, rfl, rfl, by omega, hown, hbw, Lib.hid (fun h => by cases h), Lib.hid (fun _ => hnx), HP2⟩
            case measure => simp [intOf, metN]; omega
          · have g10 : ((byt l p : Int) == 10) = false := by simp; omega
            have hto := note_to hlt h10
            have hN := fun w => rnoteAt_c l p w (by omega) hlt
            cases hn : isNote l p with
            | false =>
              rw [hn] at hN
              have HE : Hid (R = (acc, same, (p : Int), 0)) := Lib.hid (by rw [← hin, if_neg (by rw [hw]; decide), if_neg h10, if_neg (by rw [hn]; decide)])
              clear hin hw h10 HP hn
              go_wp2_with fail
              refine (hW _).mono ?_
              rintro e w1 ⟨rfl, rfl⟩
              go_wp2_with fail
              refine (hN _).mono ?_
              rintro e w1 ⟨rfl, rfl⟩
              go_wp2_with fail
              exact bodyPost_ret (v := .tuple #[_, .bool same, .int .i64 p, .int .i64 0]) (by simp [results, Tryd.results63, go_sem]; rfl) rfl ⟨_, by rw [HE.out], by rw [HE.out]; exact hown, hbw⟩
            | true =>
              rw [hn] at hN
              have hRp := fun w => rrow_n l p w (by omega) hp
              have hA := fun w => rabove_n l p w (by omega) hp
              have htl := rowTo_le hp
              have hlx : ((l.drop (p + 1)).take (rowTo l p - (p + 1))).length ≤ 1073741824 := by rw [List.length_take, List.length_drop]; omega
              have hC := fun w => rcut_c ((l.drop (p + 1)).take (rowTo l p - (p + 1))) w hlx
              rw [show cutM ((l.drop (p + 1)).take (rowTo l p - (p + 1))) = noteTx l p from rfl] at hC
              obtain ⟨oa, oc, rfl⟩ := own_shape hown
              have hrt : rowFrom l (rowTo l p) = rowFrom l p := rowFrom_same (by omega) (fun j h1 h2 => rowTo_in h1 h2)
              have hsame : (if acc.isEmpty then decide (rowFrom l b ≠ b) && decide (rowFrom l b = rowFrom l p) else same) = if acc.length = 0 then decide (rowFrom l b ≠ b) && decide (rowFrom l b = rowFrom l p) else same := by cases acc <;> rfl
              have HP2 : Hid (refR l b n within false (rowTo l p) (acc ++ [(noteTx l p, aboveM l p)]) (if acc.isEmpty then decide (rowFrom l b ≠ b) && decide (rowFrom l b = rowFrom l p) else same) = R) := Lib.hid (by rw [if_neg (by rw [hw]; decide), if_neg h10, if_pos hn] at hin; exact hin)
              generalize (if acc.isEmpty then decide (rowFrom l b ≠ b) && decide (rowFrom l b = rowFrom l p) else same) = sm' at *
              have HS := Lib.hid hsame
              clear hsame hin hw h10 HP hn
              go_wp2_with fail
              refine (hW _).mono ?_
              rintro e w1 ⟨rfl, rfl⟩
              go_wp2_with fail
              refine (hN _).mono ?_
              rintro e w1 ⟨rfl, rfl⟩
              go_wp2_with fail
              refine (hRp _).mono ?_
              rintro e wr ⟨rfl, rfl⟩
              go_upto_if 130 with fail
              go_cut [15] (fun s wx => s = .bool sm' ∧ wx = wc)
              case first =>
                by_cases h0 : acc.length = 0
                · have g0 : ((acc.length : Int) == 0) = true := by rw [h0]; rfl
                  by_cases hb1 : rowFrom l b = b
                  · have HN : Hid (sm' = false) := Lib.hid (by rw [HS.out, if_pos h0, decide_eq_false (fun h => h hb1)]; rfl)
                    have g1 : ((rowFrom l b : Int) != (b : Int)) = false := by rw [hb1]; simp
                    clear h0 hb1
                    go_wp2_with fail
                    refine (hRb _).mono ?_
                    rintro e w1 ⟨rfl, rfl⟩
                    go_wp2_with fail
                    go_meet
                    exact ⟨by rw [HN.out], rfl⟩
                  · have HN : Hid (sm' = decide (rowFrom l b = rowFrom l p)) := Lib.hid (by rw [HS.out, if_pos h0, decide_eq_true hb1]; rfl)
                    have g1 : ((rowFrom l b : Int) != (b : Int)) = true := by simp; omega
                    clear h0 hb1
                    go_wp2_with fail
                    refine (hRb _).mono ?_
                    rintro e w1 ⟨rfl, rfl⟩
                    go_wp2_with fail
                    go_meet
                    exact ⟨ret_boolv (by rw [HN.out, Bool.eq_iff_iff]; simp; try omega), rfl⟩
                · have g0 : ((acc.length : Int) == 0) = false := by rw [beq_eq_false_iff_ne]; omega
                  have HN : Hid (sm' = same) := Lib.hid (by rw [HS.out, if_neg h0])
                  clear h0
                  go_wp2_with fail
                  go_meet
                  exact ⟨by rw [HN.out], rfl⟩
              case rest =>
                obtain ⟨rfl, rfl⟩ := hcut
                have hn1 : acc.length + 1 ≤ maxLen := by unfold maxLen; omega
                have hn2 : (acc.length + 1) * 24 ≤ 140737488355328 := by omega
                have hw1 : IntKind.i64.wrap ((p : Int) + 1) = (p : Int) + 1 := IntWalk.i64_in _ (by omega)
                have hw2 : ((p : Int) + 1).toNat = p + 1 := by clear hw1; omega
                have hw3 : (0 : Int) ≤ (p : Int) + 1 := by clear hw1 hw2; omega
                have hw4 : (p : Int) + 1 ≤ (rowTo l p : Int) := by clear hw1 hw2 hw3; omega
                have hw5 : (rowTo l p : Int) ≤ (l.length : Int) := by clear hw1 hw2 hw3 hw4; omega
                obtain ⟨i0, hi, hz0, hz1, hz2⟩ := info_parts Tryd.infoComment
                have hwr := hbw.size
                go_wp2_with fail
                refine (hC _).mono ?_
                rintro e w1 ⟨rfl, rfl⟩
                go_wp2_with fail
                refine (hA _).mono ?_
                rintro e w1 ⟨rfl, rfl⟩
                go_wp2_with (at_builtin; refine wpList_append_lies _ (by rfl) _ _ 36 (by rfl) w.heap.size 38 i0 _ 2 24 Tryd.underlying36 hi hz0 hz1 hz2 rfl (by omega) (.slice oa acc.length oc) acc.length (cmts acc) (by rfl) (hown.alloc _) ⟨wc.heap.size, 0, none⟩ 1 1 [.string ⟨(noteTx l p).toArray⟩, .int .i64 (aboveM l p)] (by rfl) (by rfl) (World.news_of_block (cs := #[.string ⟨(noteTx l p).toArray⟩, .int .i64 (aboveM l p)]) (t := 38) (fr := (0, 0)) (heap_alloc_new wc _)) (by simp [Value.oneCell']) (by omega) hn1 hn2 (by simp; omega) _ rfl ?_; intro gg cap w5 hown5 hgrow5 _ _)
                go_roundw
                case rel => exact ⟨rowTo l p, rowFrom l p, false, sm', acc ++ [(noteTx l p, aboveM l p)], by omega, htl, rfl, rfl, rfl, rfl, by rw [List.length_append]; simp; omega, by rw [List.length_append, cmts_snoc]; exact hown5, (hbw.alloc (by omega) _).grown hgrow5 (by simp; omega) (fun k hk => (hown.lt k hk).1), Lib.hid (fun _ => hrt.symm), Lib.hid (fun h => by cases h), HP2⟩
                case measure => simp [intOf, metN]; omega
    · have HE : Hid (R = (acc, same, (p : Int), 0)) := Lib.hid (by rw [← HP.out, refR_end _ _ _ _ _ _ _ _ (by omega)])
      go_wp2_with fail
      exact bodyPost_ret (v := .tuple #[_, .bool same, .int .i64 p, .int .i64 0]) (by simp [results, Tryd.results63, go_sem]; rfl) rfl ⟨_, by rw [HE.out], by rw [HE.out]; exact hown, hbw⟩
end Go.Proofs.YtjnmgmepolpcdaaDoor
