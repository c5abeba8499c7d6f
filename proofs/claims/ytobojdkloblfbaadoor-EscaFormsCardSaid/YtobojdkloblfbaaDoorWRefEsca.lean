/- The walks of the document's answer of 5.1. -/
import Derived.Test.YtobojdkloblfbaaDoorWEscaRead
import Derived.Test.YtobojdkloblfbaaDoorWEncB
import Derived.Deep.QuietTactic
import Derived.BigQuiet
namespace Go.Proofs.YtobojdkloblfbaaDoor
open Go.RowKit U Go.Proofs

set_option maxRecDepth 100000 in
set_option maxHeartbeats 8000000 in
theorem told_c (i : Nat) (w : World) (hi : i < 18) : Calls Tryd.prog 42 #[.int .i64 i] w (Same w (.int .i32 ((escV.getD i 0 : Nat) : Int))) := by
  unfold Same
  rcases (show i = 0 ∨ i = 1 ∨ i = 2 ∨ i = 3 ∨ i = 4 ∨ i = 5 ∨ i = 6 ∨ i = 7 ∨ i = 8 ∨ i = 9 ∨ i = 10 ∨ i = 11 ∨ i = 12 ∨ i = 13 ∨ i = 14 ∨ i = 15 ∨ i = 16 ∨ i = 17 by omega) with rfl | rfl | rfl | rfl | rfl | rfl | rfl | rfl | rfl | rfl | rfl | rfl | rfl | rfl | rfl | rfl | rfl | rfl
  all_goals
    clear hi
    simp only [escV, List.getD_cons_zero, List.getD_cons_succ]
    go_enter Tryd.func42, Tryd.ntmps42
    go_wp2_with fail
    go_ret
    first
      | exact ⟨rfl, rfl⟩
      | exact ⟨ret_int (by decide +kernel), rfl⟩
def hexV (c : Nat) : Int := match hexD c with | some d => (d : Int) | none => -1
set_option maxRecDepth 100000 in
set_option maxHeartbeats 2000000 in
theorem rhex_c (c : Nat) (w : World) (hc : c < 256) : Calls Tryd.prog 43 #[.int .u8 c] w (Same w (.int .i32 (hexV c))) := by
  unfold Same
  have hv : hexV c = if 48 ≤ c ∧ c ≤ 57 then (c : Int) - 48 else if 97 ≤ c ∧ c ≤ 102 then (c : Int) - 97 + 10 else if 65 ≤ c ∧ c ≤ 70 then (c : Int) - 65 + 10 else -1 := by
    unfold hexV hexD
    split
    · rename_i d h
      split at h
      · injection h with h; rw [if_pos (by omega)]; omega
      · split at h
        · injection h with h; rw [if_neg (by omega), if_pos (by omega)]; omega
        · split at h
          · injection h with h; rw [if_neg (by omega), if_neg (by omega), if_pos (by omega)]; omega
          · cases h
    · rename_i h
      split at h
      · cases h
      · split at h
        · cases h
        · split at h
          · cases h
          · rw [if_neg (by omega), if_neg (by omega), if_neg (by omega)]
  generalize hexV c = v at *
  have HV := Lib.hid hv
  clear hv
  by_cases h1 : 48 ≤ c ∧ c ≤ 57
  · have HE : Hid (v = (c : Int) - 48) := Lib.hid (by rw [HV.out, if_pos h1])
    obtain ⟨h2, h3⟩ := h1
    clear HV
    go_enter Tryd.func43, Tryd.ntmps43
    go_wp2_with fail
    go_ret
    exact ⟨ret_int (by rw [HE.out]), rfl⟩
  by_cases h2 : 97 ≤ c ∧ c ≤ 102
  · have HE : Hid (v = (c : Int) - 97 + 10) := Lib.hid (by rw [HV.out, if_neg h1, if_pos h2])
    obtain ⟨h3, h4⟩ := h2
    clear HV h1
    go_enter Tryd.func43, Tryd.ntmps43
    go_wp2_with fail
    go_ret
    exact ⟨ret_int (by rw [HE.out]), rfl⟩
  by_cases h3 : 65 ≤ c ∧ c ≤ 70
  · have HE : Hid (v = (c : Int) - 65 + 10) := Lib.hid (by rw [HV.out, if_neg h1, if_neg h2, if_pos h3])
    obtain ⟨h4, h5⟩ := h3
    clear HV h1 h2
    go_enter Tryd.func43, Tryd.ntmps43
    go_wp2_with fail
    go_ret
    exact ⟨ret_int (by rw [HE.out]), rfl⟩
  have HE : Hid (v = -1) := Lib.hid (by rw [HV.out, if_neg h1, if_neg h2, if_neg h3])
  clear HV
  go_enter Tryd.func43, Tryd.ntmps43
  go_wp2_with fail
  all_goals first
    | (exfalso; omega)
    | (go_ret; exact ⟨ret_int (by rw [HE.out]), rfl⟩)
theorem letters_at : ∀ i, i < 18 → byt [48, 97, 98, 116, 110, 118, 102, 114, 101, 9, 32, 34, 47, 92, 78, 95, 76, 80] i = escL.getD i 0 := by decide
theorem scal_scalar (r : Nat) : scal (r : Int) = decide (scalarN r) := by
  unfold scal scalarN
  rw [Bool.eq_iff_iff]
  simp
  omega
/-- It answers so, and nothing but draws has turned. -/
def QRet (r : Int × Int × Int) (w : World) (e : Ending) (w' : World) : Prop := e = .returned (.tuple #[.int .i32 r.1, .int .i64 r.2.1, .int .i64 r.2.2]) ∧ ∃ n, w' = w.drewN n
set_option maxRecDepth 100000 in
set_option maxHeartbeats 8000000 in
theorem escape_c (l : List UInt8) (a : Int) (w : World) (hs : l.length ≤ 1073741824) (ha0 : -9223372036854775808 ≤ a) (ha1 : a ≤ 9223372036854775807) :
    Calls Tryd.prog 18 #[.string ⟨l.toArray⟩, .int .i64 a] w (QRet (escM l a) w) := by
  obtain ⟨R, hR⟩ : ∃ R, R = escM l a := ⟨_, rfl⟩
  rw [← hR]
  unfold escM at hR
  by_cases h1 : a < 0
  · have HE : Hid (R = (0, a, 5)) := Lib.hid (by rw [hR, if_pos (.inl h1)])
    clear hR
    go_enter Tryd.func18, Tryd.ntmps18
    go_wp2_with fail
    go_ret3
    exact ⟨by rw [HE.out]; rfl, 0, rfl⟩
  by_cases h2 : (l.length : Int) ≤ a
  · have HE : Hid (R = (0, a, 5)) := Lib.hid (by rw [hR, if_pos (.inr (.inl (by omega)))])
    clear hR
    go_enter Tryd.func18, Tryd.ntmps18
    go_wp2_with fail
    go_ret3
    exact ⟨by rw [HE.out]; rfl, 0, rfl⟩
  obtain ⟨p, rfl⟩ := Int.eq_ofNat_of_zero_le (show 0 ≤ a by omega)
  rw [show ((p : Int)).toNat = p from rfl] at hR
  by_cases h4 : l.length < p + 2
  · have HE : Hid (R = (0, (p : Int), 5)) := Lib.hid (by rw [hR, if_pos (.inr (.inl (by omega)))])
    have g : decide ((l.length : Int) - (p : Int) < 2) = true := by simp; omega
    clear hR
    go_enter Tryd.func18, Tryd.ntmps18
    go_wp2_with fail
    go_ret3
    exact ⟨by rw [HE.out]; rfl, 0, rfl⟩
  have hp : p + 1 < l.length := by omega
  have glen : decide ((l.length : Int) - (p : Int) < 2) = false := by simp; omega
  by_cases h3 : byt l p = 92
  · rw [if_neg (by omega)] at hR
    have g92 : ((byt l p : Int) != 92) = false := by rw [h3]; rfl
    have hi1 : ((p : Int) + 1).toNat = p + 1 := by omega
    have hT := fun i w hi => told_c i w hi
    have HR := Lib.hid hR
    clear hR h3
    go_enter Tryd.func18, Tryd.ntmps18
    go_wp2_with fail
    go_loopw [7] (fun x wr => ∃ i m : Nat, i ≤ 18 ∧ x = .int .i64 i ∧ wr = w.drewN m ∧ Hid (∀ j, j < i → escL.getD j 0 ≠ byt l (p + 1))) (fun x _ => 18 - (intOf x).toNat)
    case atStart => exact ⟨0, 0, by omega, rfl, rfl, Lib.hid (fun j hj => by omega)⟩
    case round =>
      obtain ⟨i, m, hi, rfl, rfl, HJ⟩ := hrel
      by_cases hlt : i < 18
      · have hla := letters_at i hlt
        have hi0 : (0 : Int) ≤ (i : Int) := by omega
        have hi18 : (i : Int) < 18 := by omega
        have hpi : (p : Int) + 1 < (l.length : Int) := by omega
        have hp0 : (0 : Int) ≤ (p : Int) + 1 := by omega
        by_cases heq : escL.getD i 0 = byt l (p + 1)
        · have hsh := short_get i hlt
          rw [heq] at hsh hla
          have hT := fun w => told_c i w hlt
          have HE : Hid (R = (((escV.getD i 0 : Nat) : Int), (p : Int) + 2, 0)) := Lib.hid (by rw [HR.out, hsh])
          generalize escV.getD i 0 = v at *
          clear hsh heq HR HJ
          go_upto_region 6 with fail
          go_cut [44] (fun s wx => s = .bool true ∧ ∃ k, wx = w.drewN k)
          case first =>
            go_quiet (fail)
            go_wp2_with fail
            go_meet
            exact ⟨by simp, _, World.drewN_drewN _ _ _⟩
          case rest =>
            obtain ⟨rfl, k, rfl⟩ := hcut
            clear hla
            go_wp2_with fail
            refine (hT _).mono ?_
            rintro e w1 ⟨rfl, rfl⟩
            go_wp2_with fail
            go_ret3
            exact ⟨by rw [HE.out]; rfl, k, rfl⟩
        · have hne : byt [48, 97, 98, 116, 110, 118, 102, 114, 101, 9, 32, 34, 47, 92, 78, 95, 76, 80] i ≠ byt l (p + 1) := by rw [hla]; exact heq
          have HJ2 : Hid (∀ j, j < i + 1 → escL.getD j 0 ≠ byt l (p + 1)) := Lib.hid (fun j hj => by
            rcases Nat.lt_or_ge j i with h | h
            · exact HJ.out j h
            · rw [show j = i by omega]; exact heq)
          have HN := Lib.hid hne
          clear heq HJ hla hne
          go_upto_region 6 with fail
          go_cut [44] (fun s wx => s = .bool false ∧ ∃ k, wx = w.drewN k)
          case first =>
            go_quiet (fail)
            go_wp2_with fail
            go_meet
            have := HN.out
            exact ⟨by simp; omega, _, World.drewN_drewN _ _ _⟩
          case rest =>
            obtain ⟨rfl, k, rfl⟩ := hcut
            clear HN
            go_wp2_with fail
            go_roundw
            case rel => exact ⟨i + 1, k, by omega, by go_num, rfl, HJ2⟩
            case measure => simp [intOf]; omega
      · have hsh := short_none (fun j hj => HJ.out j (by omega))
        have hi18 : ¬ ((i : Int) < 18) := by omega
        have hr := HR.out
        rw [hsh] at hr
        simp only at hr
        clear HJ hsh HR hT
        have hd4 : (byt l (p + 1) = 120 ∧ digM (byt l (p + 1)) = 2) ∨ (byt l (p + 1) = 117 ∧ digM (byt l (p + 1)) = 4) ∨ (byt l (p + 1) = 85 ∧ digM (byt l (p + 1)) = 8) ∨ (byt l (p + 1) ≠ 120 ∧ byt l (p + 1) ≠ 117 ∧ byt l (p + 1) ≠ 85 ∧ digM (byt l (p + 1)) = 0) := by
          unfold digM
          by_cases k1 : byt l (p + 1) = 120
          · exact .inl ⟨k1, if_pos k1⟩
          · by_cases k2 : byt l (p + 1) = 117
            · exact .inr (.inl ⟨k2, by rw [if_neg k1, if_pos k2]⟩)
            · by_cases k3 : byt l (p + 1) = 85
              · exact .inr (.inr (.inl ⟨k3, by rw [if_neg k1, if_neg k2, if_pos k3]⟩))
              · exact .inr (.inr (.inr ⟨k1, k2, k3, by rw [if_neg k1, if_neg k2, if_neg k3]⟩))
        generalize digM (byt l (p + 1)) = n at *
        have hpi : (p : Int) + 1 < (l.length : Int) := by omega
        rcases hd4 with ⟨kc, rfl⟩ | ⟨kc, rfl⟩ | ⟨kc, rfl⟩ | ⟨k1, k2, k3, rfl⟩
        case inr.inr.inr =>
          have HE : Hid (R = (0, (p : Int), 5)) := Lib.hid (by rw [hr, if_pos (.inl rfl)])
          have q1 : ((byt l (p + 1) : Int) == 120) = false := by rw [beq_eq_false_iff_ne]; omega
          have q2 : ((byt l (p + 1) : Int) == 117) = false := by rw [beq_eq_false_iff_ne]; omega
          have q3 : ((byt l (p + 1) : Int) == 85) = false := by rw [beq_eq_false_iff_ne]; omega
          clear hr k1 k2 k3
          go_wp2_with fail
          go_ret3
          exact ⟨by rw [HE.out]; rfl, m, rfl⟩
        case inl =>
          have q1 : ((byt l (p + 1) : Int) == 120) = true := by rw [kc]; rfl
          have q2 : ((byt l (p + 1) : Int) == 117) = false := by rw [kc]; rfl
          have q3 : ((byt l (p + 1) : Int) == 85) = false := by rw [kc]; rfl
          by_cases hsz : l.length < p + 2 + 2
          · have HE : Hid (R = (0, (p : Int), 5)) := Lib.hid (by rw [hr, if_pos (.inr (by omega))])
            have gsz : decide ((l.length : Int) - (p : Int) < 2 + 2) = true := by simp; omega
            clear hr kc
            go_wp2_with fail
            go_ret3
            exact ⟨by rw [HE.out]; rfl, m, rfl⟩
          · rw [if_neg (by omega)] at hr
            have gsz : decide ((l.length : Int) - (p : Int) < 2 + 2) = false := by simp; omega
            have hX0 : ∃ X, hexO ((l.drop (p + 2)).take 2) = X := ⟨_, rfl⟩
            obtain ⟨X, hX⟩ := hX0
            rw [hX] at hr
            have hX2 : X = match hexF ((l.drop (p + 2 + 0)).take (2 - 0)) 0 with | none => none | some k => if scalarN k then some k else none := hX.symm
            have HX0 := Lib.hid hX2
            have HR := Lib.hid hr
            clear hr kc hX hX2
            go_wp2_with fail
            go_loopw [9, 10] (fun s x wr => ∃ i r : Nat, wr = w.drewN m ∧ i ≤ 2 ∧ s = .int .i32 r ∧ x = .int .i64 i ∧ r ≤ 17825791 ∧ Hid (X = match hexF ((l.drop (p + 2 + i)).take (2 - i)) r with | none => none | some k => if scalarN k then some k else none)) (fun _ x _ => 2 - (intOf x).toNat)
            case atStart => exact ⟨0, 0, rfl, by omega, rfl, rfl, by omega, HX0⟩
            case round =>
              obtain ⟨i, r, rfl, hi, rfl, rfl, hr17, HX⟩ := hrel
              by_cases hlt : i < 2
              · have hq : p + 2 + i < l.length := by omega
                have hx := HX.out
                rw [List.drop_eq_getElem_cons hq, show 2 - i = (2 - (i + 1)) + 1 by omega, List.take_succ_cons, hexF, byt_get l _ hq] at hx
                have hH := fun w => rhex_c (byt l (p + 2 + i)) w (byt_lt l _)
                have hj1 : ((p : Int) + 2 + (i : Int)).toNat = p + 2 + i := by omega
                have hj2 : (0 : Int) ≤ (p : Int) + 2 + (i : Int) := by omega
                have hj3 : (p : Int) + 2 + (i : Int) < (l.length : Int) := by omega
                unfold hexV at hH
                cases hd : hexD (byt l (p + 2 + i)) with
                | none =>
                  rw [hd] at hx hH
                  have HE : Hid (R = (0, (p : Int), 5)) := Lib.hid (by rw [HR.out, hx])
                  clear hx hd HX HX0 HR
                  go_wp2_with fail
                  refine (hH _).mono ?_
                  rintro e w1 ⟨rfl, rfl⟩
                  go_wp2_with fail
                  go_ret3
                  exact ⟨by rw [HE.out]; rfl, m, rfl⟩
                | some d =>
                  have hd16 := hexD_lt hd
                  rw [hd] at hx hH
                  have hx : X = match hexF ((l.drop (p + 2 + i + 1)).take (2 - (i + 1))) (r * 16 + d) with | none => none | some k => if scalarN k then some k else none := hx
                  have gd : decide ((d : Int) < 0) = false := by simp
                  by_cases hbig : 1114111 < r
                  · have hXn : X = none := hx.trans (hexF_big (by omega))
                    have HE : Hid (R = (0, (p : Int), 5)) := Lib.hid (by rw [HR.out, hXn])
                    clear hXn
                    clear hx hd HX HX0 HR
                    go_wp2_with fail
                    refine (hH _).mono ?_
                    rintro e w1 ⟨rfl, rfl⟩
                    go_wp2_with fail
                    go_ret3
                    exact ⟨by rw [HE.out]; rfl, m, rfl⟩
                  · have HX2 := Lib.hid hx
                    have hor : bits .or .i32 ((r : Int) * 16) (d : Int) = (r : Int) * 16 + d := bits_join .i32 31 (by decide) wraps_i32 4 _ _ (by omega) (by omega) (by omega) (by omega) (by omega) (by omega)
                    clear hx hd HX HX0
                    go_wp2_with fail
                    refine (hH _).mono ?_
                    rintro e w1 ⟨rfl, rfl⟩
                    go_wp2_with fail
                    go_roundw
                    case rel => exact ⟨i + 1, r * 16 + d, trivial, by omega, by go_num, by go_num, by omega, by rw [show p + 2 + (i + 1) = p + 2 + i + 1 by omega]; exact HX2⟩
                    case measure => simp [intOf]; omega
              · obtain rfl : i = 2 := by omega
                have HX1 : Hid (X = if scalarN r then some r else none) := Lib.hid HX.out
                have hSc := fun w => refScalar_c (r : Int) w
                rw [scal_scalar] at hSc
                clear HX HX0
                by_cases hsr : scalarN r
                · have HE : Hid (R = ((r : Int), (p : Int) + 2 + 2, 0)) := Lib.hid (by rw [HR.out, HX1.out, if_pos hsr]; rfl)
                  rw [decide_eq_true hsr] at hSc
                  clear HR HX1 hsr
                  go_wp2_with fail
                  refine (hSc _).mono ?_
                  rintro e w1 ⟨rfl, rfl⟩
                  go_wp2_with fail
                  go_ret3
                  exact ⟨by rw [HE.out]; rfl, m, rfl⟩
                · have HE : Hid (R = (0, (p : Int), 5)) := Lib.hid (by rw [HR.out, HX1.out, if_neg hsr])
                  rw [decide_eq_false hsr] at hSc
                  clear HR HX1 hsr
                  go_wp2_with fail
                  refine (hSc _).mono ?_
                  rintro e w1 ⟨rfl, rfl⟩
                  go_wp2_with fail
                  go_ret3
                  exact ⟨by rw [HE.out]; rfl, m, rfl⟩
        case inr.inl =>
          have q1 : ((byt l (p + 1) : Int) == 120) = false := by rw [kc]; rfl
          have q2 : ((byt l (p + 1) : Int) == 117) = true := by rw [kc]; rfl
          have q3 : ((byt l (p + 1) : Int) == 85) = false := by rw [kc]; rfl
          by_cases hsz : l.length < p + 2 + 4
          · have HE : Hid (R = (0, (p : Int), 5)) := Lib.hid (by rw [hr, if_pos (.inr (by omega))])
            have gsz : decide ((l.length : Int) - (p : Int) < 2 + 4) = true := by simp; omega
            clear hr kc
            go_wp2_with fail
            go_ret3
            exact ⟨by rw [HE.out]; rfl, m, rfl⟩
          · rw [if_neg (by omega)] at hr
            have gsz : decide ((l.length : Int) - (p : Int) < 2 + 4) = false := by simp; omega
            have hX0 : ∃ X, hexO ((l.drop (p + 2)).take 4) = X := ⟨_, rfl⟩
            obtain ⟨X, hX⟩ := hX0
            rw [hX] at hr
            have hX2 : X = match hexF ((l.drop (p + 2 + 0)).take (4 - 0)) 0 with | none => none | some k => if scalarN k then some k else none := hX.symm
            have HX0 := Lib.hid hX2
            have HR := Lib.hid hr
            clear hr kc hX hX2
            go_wp2_with fail
            go_loopw [9, 10] (fun s x wr => ∃ i r : Nat, wr = w.drewN m ∧ i ≤ 4 ∧ s = .int .i32 r ∧ x = .int .i64 i ∧ r ≤ 17825791 ∧ Hid (X = match hexF ((l.drop (p + 2 + i)).take (4 - i)) r with | none => none | some k => if scalarN k then some k else none)) (fun _ x _ => 4 - (intOf x).toNat)
            case atStart => exact ⟨0, 0, rfl, by omega, rfl, rfl, by omega, HX0⟩
            case round =>
              obtain ⟨i, r, rfl, hi, rfl, rfl, hr17, HX⟩ := hrel
              by_cases hlt : i < 4
              · have hq : p + 2 + i < l.length := by omega
                have hx := HX.out
                rw [List.drop_eq_getElem_cons hq, show 4 - i = (4 - (i + 1)) + 1 by omega, List.take_succ_cons, hexF, byt_get l _ hq] at hx
                have hH := fun w => rhex_c (byt l (p + 2 + i)) w (byt_lt l _)
                have hj1 : ((p : Int) + 2 + (i : Int)).toNat = p + 2 + i := by omega
                have hj2 : (0 : Int) ≤ (p : Int) + 2 + (i : Int) := by omega
                have hj3 : (p : Int) + 2 + (i : Int) < (l.length : Int) := by omega
                unfold hexV at hH
                cases hd : hexD (byt l (p + 2 + i)) with
                | none =>
                  rw [hd] at hx hH
                  have HE : Hid (R = (0, (p : Int), 5)) := Lib.hid (by rw [HR.out, hx])
                  clear hx hd HX HX0 HR
                  go_wp2_with fail
                  refine (hH _).mono ?_
                  rintro e w1 ⟨rfl, rfl⟩
                  go_wp2_with fail
                  go_ret3
                  exact ⟨by rw [HE.out]; rfl, m, rfl⟩
                | some d =>
                  have hd16 := hexD_lt hd
                  rw [hd] at hx hH
                  have hx : X = match hexF ((l.drop (p + 2 + i + 1)).take (4 - (i + 1))) (r * 16 + d) with | none => none | some k => if scalarN k then some k else none := hx
                  have gd : decide ((d : Int) < 0) = false := by simp
                  by_cases hbig : 1114111 < r
                  · have hXn : X = none := hx.trans (hexF_big (by omega))
                    have HE : Hid (R = (0, (p : Int), 5)) := Lib.hid (by rw [HR.out, hXn])
                    clear hXn
                    clear hx hd HX HX0 HR
                    go_wp2_with fail
                    refine (hH _).mono ?_
                    rintro e w1 ⟨rfl, rfl⟩
                    go_wp2_with fail
                    go_ret3
                    exact ⟨by rw [HE.out]; rfl, m, rfl⟩
                  · have HX2 := Lib.hid hx
                    have hor : bits .or .i32 ((r : Int) * 16) (d : Int) = (r : Int) * 16 + d := bits_join .i32 31 (by decide) wraps_i32 4 _ _ (by omega) (by omega) (by omega) (by omega) (by omega) (by omega)
                    clear hx hd HX HX0
                    go_wp2_with fail
                    refine (hH _).mono ?_
                    rintro e w1 ⟨rfl, rfl⟩
                    go_wp2_with fail
                    go_roundw
                    case rel => exact ⟨i + 1, r * 16 + d, trivial, by omega, by go_num, by go_num, by omega, by rw [show p + 2 + (i + 1) = p + 2 + i + 1 by omega]; exact HX2⟩
                    case measure => simp [intOf]; omega
              · obtain rfl : i = 4 := by omega
                have HX1 : Hid (X = if scalarN r then some r else none) := Lib.hid HX.out
                have hSc := fun w => refScalar_c (r : Int) w
                rw [scal_scalar] at hSc
                clear HX HX0
                by_cases hsr : scalarN r
                · have HE : Hid (R = ((r : Int), (p : Int) + 2 + 4, 0)) := Lib.hid (by rw [HR.out, HX1.out, if_pos hsr]; rfl)
                  rw [decide_eq_true hsr] at hSc
                  clear HR HX1 hsr
                  go_wp2_with fail
                  refine (hSc _).mono ?_
                  rintro e w1 ⟨rfl, rfl⟩
                  go_wp2_with fail
                  go_ret3
                  exact ⟨by rw [HE.out]; rfl, m, rfl⟩
                · have HE : Hid (R = (0, (p : Int), 5)) := Lib.hid (by rw [HR.out, HX1.out, if_neg hsr])
                  rw [decide_eq_false hsr] at hSc
                  clear HR HX1 hsr
                  go_wp2_with fail
                  refine (hSc _).mono ?_
                  rintro e w1 ⟨rfl, rfl⟩
                  go_wp2_with fail
                  go_ret3
                  exact ⟨by rw [HE.out]; rfl, m, rfl⟩
        case inr.inr.inl =>
          have q1 : ((byt l (p + 1) : Int) == 120) = false := by rw [kc]; rfl
          have q2 : ((byt l (p + 1) : Int) == 117) = false := by rw [kc]; rfl
          have q3 : ((byt l (p + 1) : Int) == 85) = true := by rw [kc]; rfl
          by_cases hsz : l.length < p + 2 + 8
          · have HE : Hid (R = (0, (p : Int), 5)) := Lib.hid (by rw [hr, if_pos (.inr (by omega))])
            have gsz : decide ((l.length : Int) - (p : Int) < 2 + 8) = true := by simp; omega
            clear hr kc
            go_wp2_with fail
            go_ret3
            exact ⟨by rw [HE.out]; rfl, m, rfl⟩
          · rw [if_neg (by omega)] at hr
            have gsz : decide ((l.length : Int) - (p : Int) < 2 + 8) = false := by simp; omega
            have hX0 : ∃ X, hexO ((l.drop (p + 2)).take 8) = X := ⟨_, rfl⟩
            obtain ⟨X, hX⟩ := hX0
            rw [hX] at hr
            have hX2 : X = match hexF ((l.drop (p + 2 + 0)).take (8 - 0)) 0 with | none => none | some k => if scalarN k then some k else none := hX.symm
            have HX0 := Lib.hid hX2
            have HR := Lib.hid hr
            clear hr kc hX hX2
            go_wp2_with fail
            go_loopw [9, 10] (fun s x wr => ∃ i r : Nat, wr = w.drewN m ∧ i ≤ 8 ∧ s = .int .i32 r ∧ x = .int .i64 i ∧ r ≤ 17825791 ∧ Hid (X = match hexF ((l.drop (p + 2 + i)).take (8 - i)) r with | none => none | some k => if scalarN k then some k else none)) (fun _ x _ => 8 - (intOf x).toNat)
            case atStart => exact ⟨0, 0, rfl, by omega, rfl, rfl, by omega, HX0⟩
            case round =>
              obtain ⟨i, r, rfl, hi, rfl, rfl, hr17, HX⟩ := hrel
              by_cases hlt : i < 8
              · have hq : p + 2 + i < l.length := by omega
                have hx := HX.out
                rw [List.drop_eq_getElem_cons hq, show 8 - i = (8 - (i + 1)) + 1 by omega, List.take_succ_cons, hexF, byt_get l _ hq] at hx
                have hH := fun w => rhex_c (byt l (p + 2 + i)) w (byt_lt l _)
                have hj1 : ((p : Int) + 2 + (i : Int)).toNat = p + 2 + i := by omega
                have hj2 : (0 : Int) ≤ (p : Int) + 2 + (i : Int) := by omega
                have hj3 : (p : Int) + 2 + (i : Int) < (l.length : Int) := by omega
                unfold hexV at hH
                cases hd : hexD (byt l (p + 2 + i)) with
                | none =>
                  rw [hd] at hx hH
                  have HE : Hid (R = (0, (p : Int), 5)) := Lib.hid (by rw [HR.out, hx])
                  clear hx hd HX HX0 HR
                  go_wp2_with fail
                  refine (hH _).mono ?_
                  rintro e w1 ⟨rfl, rfl⟩
                  go_wp2_with fail
                  go_ret3
                  exact ⟨by rw [HE.out]; rfl, m, rfl⟩
                | some d =>
                  have hd16 := hexD_lt hd
                  rw [hd] at hx hH
                  have hx : X = match hexF ((l.drop (p + 2 + i + 1)).take (8 - (i + 1))) (r * 16 + d) with | none => none | some k => if scalarN k then some k else none := hx
                  have gd : decide ((d : Int) < 0) = false := by simp
                  by_cases hbig : 1114111 < r
                  · have hXn : X = none := hx.trans (hexF_big (by omega))
                    have HE : Hid (R = (0, (p : Int), 5)) := Lib.hid (by rw [HR.out, hXn])
                    clear hXn
                    clear hx hd HX HX0 HR
                    go_wp2_with fail
                    refine (hH _).mono ?_
                    rintro e w1 ⟨rfl, rfl⟩
                    go_wp2_with fail
                    go_ret3
                    exact ⟨by rw [HE.out]; rfl, m, rfl⟩
                  · have HX2 := Lib.hid hx
                    have hor : bits .or .i32 ((r : Int) * 16) (d : Int) = (r : Int) * 16 + d := bits_join .i32 31 (by decide) wraps_i32 4 _ _ (by omega) (by omega) (by omega) (by omega) (by omega) (by omega)
                    clear hx hd HX HX0
                    go_wp2_with fail
                    refine (hH _).mono ?_
                    rintro e w1 ⟨rfl, rfl⟩
                    go_wp2_with fail
                    go_roundw
                    case rel => exact ⟨i + 1, r * 16 + d, trivial, by omega, by go_num, by go_num, by omega, by rw [show p + 2 + (i + 1) = p + 2 + i + 1 by omega]; exact HX2⟩
                    case measure => simp [intOf]; omega
              · obtain rfl : i = 8 := by omega
                have HX1 : Hid (X = if scalarN r then some r else none) := Lib.hid HX.out
                have hSc := fun w => refScalar_c (r : Int) w
                rw [scal_scalar] at hSc
                clear HX HX0
                by_cases hsr : scalarN r
                · have HE : Hid (R = ((r : Int), (p : Int) + 2 + 8, 0)) := Lib.hid (by rw [HR.out, HX1.out, if_pos hsr]; rfl)
                  rw [decide_eq_true hsr] at hSc
                  clear HR HX1 hsr
                  go_wp2_with fail
                  refine (hSc _).mono ?_
                  rintro e w1 ⟨rfl, rfl⟩
                  go_wp2_with fail
                  go_ret3
                  exact ⟨by rw [HE.out]; rfl, m, rfl⟩
                · have HE : Hid (R = (0, (p : Int), 5)) := Lib.hid (by rw [HR.out, HX1.out, if_neg hsr])
                  rw [decide_eq_false hsr] at hSc
                  clear HR HX1 hsr
                  go_wp2_with fail
                  refine (hSc _).mono ?_
                  rintro e w1 ⟨rfl, rfl⟩
                  go_wp2_with fail
                  go_ret3
                  exact ⟨by rw [HE.out]; rfl, m, rfl⟩
  · have HE : Hid (R = (0, (p : Int), 5)) := Lib.hid (by rw [hR, if_pos (.inr (.inr h3))])
    have g92 : ((byt l p : Int) != 92) = true := by simp; omega
    clear hR h3
    go_enter Tryd.func18, Tryd.ntmps18
    go_wp2_with fail
    go_ret3
    exact ⟨by rw [HE.out]; rfl, 0, rfl⟩
end Go.Proofs.YtobojdkloblfbaaDoor
