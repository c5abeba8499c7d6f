/- The walks of the document's answer of 11.1 and 11.2: where a plain scalar begins, where a part ends. -/
import Derived.Test.YtjfgcbikdibjeaaGreatDoorPAllA
import Derived.Test.YtjfgcbikdibjeaaGreatDoorWRefRows
import Derived.Test.YtjfgcbikdibjeaaGreatDoorWRefSign
namespace Go.Proofs.YtjfgcbikdibjeaaGreatDoor
open Go.RowKit U Go.Proofs

theorem has_ind : ∀ b, b < 256 → hasM [45, 63, 58, 44, 91, 93, 123, 125, 35, 38, 42, 33, 124, 62, 39, 34, 37, 64, 96] b = indN b := by decide +kernel
set_option maxRecDepth 100000 in
theorem rindicator_c (b : Nat) (w : World) (hb : b < 256) : Calls Tryz.prog 87 #[.int .u8 b] w fun e w' => e = .returned (.bool (indN b)) ∧ w = w' := by
  rw [← has_ind b hb]
  have hH := fun w => has_c [45, 63, 58, 44, 91, 93, 123, 125, 35, 38, 42, 33, 124, 62, 39, 34, 37, 64, 96] b w (by decide)
  generalize hasM [45, 63, 58, 44, 91, 93, 123, 125, 35, 38, 42, 33, 124, 62, 39, 34, 37, 64, 96] b = x at *
  go_enter Tryz.func87, Tryz.ntmps87
  go_wp2_with fail
  refine (hH _).mono ?_
  rintro e w1 ⟨rfl, rfl⟩
  go_wp2_with fail
  go_ret
  exact ⟨rfl, rfl⟩
theorem ends_in {l : List UInt8} {p : Nat} (h : endsM l p = false) : p < l.length := by
  rcases Nat.lt_or_ge p l.length with h1 | h1
  · exact h1
  · unfold endsM at h; rw [decide_eq_true h1] at h; simp at h
theorem stops_ways (l : List UInt8) (p : Nat) (flow : Bool) : (endsM l (p + 1) = true ∧ stopsN l p flow = true) ∨ (endsM l (p + 1) = false ∧ flow = false ∧ stopsN l p flow = false) ∨ (endsM l (p + 1) = false ∧ flow = true ∧ stopsN l p flow = flowN (byt l (p + 1))) := by
  unfold stopsN
  cases endsM l (p + 1) with
  | true => exact .inl ⟨rfl, rfl⟩
  | false =>
    cases flow with
    | false => exact .inr (.inl ⟨rfl, rfl, rfl⟩)
    | true => exact .inr (.inr ⟨rfl, rfl, by simp⟩)
set_option maxRecDepth 100000 in
set_option maxHeartbeats 4000000 in
theorem rbegins_c (l : List UInt8) (p : Nat) (flow : Bool) (w : World) (hs : l.length ≤ 1073741824) (hp : p ≤ l.length) :
    Calls Tryz.prog 44 #[.string ⟨l.toArray⟩, .int .i64 p, .bool flow] w fun e w' => e = .returned (.bool (beginsM l p flow)) ∧ w = w' := by
  obtain ⟨S, hS⟩ : ∃ S, S = beginsM l p flow := ⟨_, rfl⟩
  rw [← hS]
  unfold beginsM at hS
  have hE := fun w => rends_c l p w hs (by omega)
  have hE1 := fun w => rends_c l (p + 1) w hs (by omega)
  rw [show ((p + 1 : Nat) : Int) = (p : Int) + 1 by omega] at hE1
  have hI := fun w => rindicator_c (byt l p) w (byt_lt l p)
  have hF := fun w => rflow_c (byt l (p + 1)) w (byt_lt l _)
  have hw1 : IntKind.i64.wrap ((p : Int) + 1) = (p : Int) + 1 := IntWalk.i64_in _ (by omega)
  have hi1 : ((p : Int) + 1).toNat = p + 1 := by omega
  cases he : endsM l p with
  | true =>
    rw [he] at hE hS
    have HS : Hid (S = false) := Lib.hid (by rw [hS]; rfl)
    clear hS he hI hF hE1
    go_enter Tryz.func44, Tryz.ntmps44
    go_wp2_with fail
    refine (hE _).mono ?_
    rintro e w1 ⟨rfl, rfl⟩
    go_wp2_with fail
    go_ret
    exact ⟨ret_bool HS.out.symm, rfl⟩
  | false =>
    rw [he] at hE hS
    have hlt := ends_in he
    have hS : S = if byt l p = 45 ∨ byt l p = 63 ∨ byt l p = 58 then !stopsN l p flow else !indN (byt l p) := by rw [hS]; rfl
    clear he
    have hst := stops_ways l p flow
    have hin : ∀ c : Nat, (c = 45 ∨ c = 63 ∨ c = 58) → byt l p = c → indN (byt l p) = true := fun c h1 h2 => by rw [h2]; rcases h1 with rfl | rfl | rfl <;> rfl
    have hin1 : endsM l (p + 1) = false → p + 1 < l.length := ends_in
    generalize stopsN l p flow = st at *
    generalize indN (byt l p) = ind at *
    generalize endsM l (p + 1) = e1 at *
    generalize hfl : flowN (byt l (p + 1)) = fl at *
    have key : (byt l p = 45 ∨ byt l p = 63 ∨ byt l p = 58) → S = !st := fun h => by rw [hS, if_pos h]
    clear hfl
    by_cases h45 : byt l p = 45
    · have HK := Lib.hid (key (.inl h45))
      obtain rfl : ind = true := hin 45 (by decide) h45
      have g45 : ((byt l p : Int) == 45) = true := by rw [h45]; rfl
      have n45 : ((byt l p : Int) != 45) = false := by rw [h45]; rfl
      clear hS key hin h45
      rcases hst with ⟨rfl, rfl⟩ | ⟨rfl, rfl, rfl⟩ | ⟨rfl, rfl, rfl⟩
      · clear hin1 hF
        go_enter Tryz.func44, Tryz.ntmps44
        go_wp2_with fail
        refine (hE _).mono ?_
        rintro e w1 ⟨rfl, rfl⟩
        go_wp2_with fail
        refine (hI _).mono ?_
        rintro e w1 ⟨rfl, rfl⟩
        go_wp2_with fail
        refine (hE1 _).mono ?_
        rintro e w1 ⟨rfl, rfl⟩
        go_wp2_with fail
        go_ret
        exact ⟨ret_bool HK.out.symm, rfl⟩
      · have hlt1 := hin1 rfl
        clear hin1 hF
        go_enter Tryz.func44, Tryz.ntmps44
        go_wp2_with fail
        refine (hE _).mono ?_
        rintro e w1 ⟨rfl, rfl⟩
        go_wp2_with fail
        refine (hI _).mono ?_
        rintro e w1 ⟨rfl, rfl⟩
        go_wp2_with fail
        refine (hE1 _).mono ?_
        rintro e w1 ⟨rfl, rfl⟩
        go_wp2_with fail
        go_ret
        exact ⟨ret_bool HK.out.symm, rfl⟩
      · have hlt1 := hin1 rfl
        clear hin1
        go_enter Tryz.func44, Tryz.ntmps44
        go_wp2_with fail
        refine (hE _).mono ?_
        rintro e w1 ⟨rfl, rfl⟩
        go_wp2_with fail
        refine (hI _).mono ?_
        rintro e w1 ⟨rfl, rfl⟩
        go_wp2_with fail
        refine (hE1 _).mono ?_
        rintro e w1 ⟨rfl, rfl⟩
        go_wp2_with fail
        refine (hF _).mono ?_
        rintro e w1 ⟨rfl, rfl⟩
        go_wp2_with fail
        go_ret
        exact ⟨ret_bool HK.out.symm, rfl⟩
    have g45 : ((byt l p : Int) == 45) = false := by rw [beq_eq_false_iff_ne]; omega
    have n45 : ((byt l p : Int) != 45) = true := by rw [bne_iff_ne]; omega
    by_cases h63 : byt l p = 63
    · have HK := Lib.hid (key (.inr (.inl h63)))
      obtain rfl : ind = true := hin 63 (by decide) h63
      have g63 : ((byt l p : Int) == 63) = true := by rw [h63]; rfl
      have n63 : ((byt l p : Int) != 63) = false := by rw [h63]; rfl
      clear hS key hin h45 h63
      rcases hst with ⟨rfl, rfl⟩ | ⟨rfl, rfl, rfl⟩ | ⟨rfl, rfl, rfl⟩
      · clear hin1 hF
        go_enter Tryz.func44, Tryz.ntmps44
        go_wp2_with fail
        refine (hE _).mono ?_
        rintro e w1 ⟨rfl, rfl⟩
        go_wp2_with fail
        refine (hI _).mono ?_
        rintro e w1 ⟨rfl, rfl⟩
        go_wp2_with fail
        refine (hE1 _).mono ?_
        rintro e w1 ⟨rfl, rfl⟩
        go_wp2_with fail
        go_ret
        exact ⟨ret_bool HK.out.symm, rfl⟩
      · have hlt1 := hin1 rfl
        clear hin1 hF
        go_enter Tryz.func44, Tryz.ntmps44
        go_wp2_with fail
        refine (hE _).mono ?_
        rintro e w1 ⟨rfl, rfl⟩
        go_wp2_with fail
        refine (hI _).mono ?_
        rintro e w1 ⟨rfl, rfl⟩
        go_wp2_with fail
        refine (hE1 _).mono ?_
        rintro e w1 ⟨rfl, rfl⟩
        go_wp2_with fail
        go_ret
        exact ⟨ret_bool HK.out.symm, rfl⟩
      · have hlt1 := hin1 rfl
        clear hin1
        go_enter Tryz.func44, Tryz.ntmps44
        go_wp2_with fail
        refine (hE _).mono ?_
        rintro e w1 ⟨rfl, rfl⟩
        go_wp2_with fail
        refine (hI _).mono ?_
        rintro e w1 ⟨rfl, rfl⟩
        go_wp2_with fail
        refine (hE1 _).mono ?_
        rintro e w1 ⟨rfl, rfl⟩
        go_wp2_with fail
        refine (hF _).mono ?_
        rintro e w1 ⟨rfl, rfl⟩
        go_wp2_with fail
        go_ret
        exact ⟨ret_bool HK.out.symm, rfl⟩
    have g63 : ((byt l p : Int) == 63) = false := by rw [beq_eq_false_iff_ne]; omega
    have n63 : ((byt l p : Int) != 63) = true := by rw [bne_iff_ne]; omega
    by_cases h58 : byt l p = 58
    · have HK := Lib.hid (key (.inr (.inr h58)))
      obtain rfl : ind = true := hin 58 (by decide) h58
      have g58 : ((byt l p : Int) == 58) = true := by rw [h58]; rfl
      have n58 : ((byt l p : Int) != 58) = false := by rw [h58]; rfl
      clear hS key hin h45 h63 h58
      rcases hst with ⟨rfl, rfl⟩ | ⟨rfl, rfl, rfl⟩ | ⟨rfl, rfl, rfl⟩
      · clear hin1 hF
        go_enter Tryz.func44, Tryz.ntmps44
        go_wp2_with fail
        refine (hE _).mono ?_
        rintro e w1 ⟨rfl, rfl⟩
        go_wp2_with fail
        refine (hI _).mono ?_
        rintro e w1 ⟨rfl, rfl⟩
        go_wp2_with fail
        refine (hE1 _).mono ?_
        rintro e w1 ⟨rfl, rfl⟩
        go_wp2_with fail
        go_ret
        exact ⟨ret_bool HK.out.symm, rfl⟩
      · have hlt1 := hin1 rfl
        clear hin1 hF
        go_enter Tryz.func44, Tryz.ntmps44
        go_wp2_with fail
        refine (hE _).mono ?_
        rintro e w1 ⟨rfl, rfl⟩
        go_wp2_with fail
        refine (hI _).mono ?_
        rintro e w1 ⟨rfl, rfl⟩
        go_wp2_with fail
        refine (hE1 _).mono ?_
        rintro e w1 ⟨rfl, rfl⟩
        go_wp2_with fail
        go_ret
        exact ⟨ret_bool HK.out.symm, rfl⟩
      · have hlt1 := hin1 rfl
        clear hin1
        go_enter Tryz.func44, Tryz.ntmps44
        go_wp2_with fail
        refine (hE _).mono ?_
        rintro e w1 ⟨rfl, rfl⟩
        go_wp2_with fail
        refine (hI _).mono ?_
        rintro e w1 ⟨rfl, rfl⟩
        go_wp2_with fail
        refine (hE1 _).mono ?_
        rintro e w1 ⟨rfl, rfl⟩
        go_wp2_with fail
        refine (hF _).mono ?_
        rintro e w1 ⟨rfl, rfl⟩
        go_wp2_with fail
        go_ret
        exact ⟨ret_bool HK.out.symm, rfl⟩
    have g58 : ((byt l p : Int) == 58) = false := by rw [beq_eq_false_iff_ne]; omega
    have n58 : ((byt l p : Int) != 58) = true := by rw [bne_iff_ne]; omega
    have HS : Hid (S = !ind) := Lib.hid (by rw [hS, if_neg (by omega)])
    clear hS key hin hin1 hst h45 h63 h58 hE1 hF
    cases ind with
    | true =>
      go_enter Tryz.func44, Tryz.ntmps44
      go_wp2_with fail
      refine (hE _).mono ?_
      rintro e w1 ⟨rfl, rfl⟩
      go_wp2_with fail
      refine (hI _).mono ?_
      rintro e w1 ⟨rfl, rfl⟩
      go_wp2_with fail
      go_ret
      exact ⟨ret_bool HS.out.symm, rfl⟩
    | false =>
      go_enter Tryz.func44, Tryz.ntmps44
      go_wp2_with fail
      refine (hE _).mono ?_
      rintro e w1 ⟨rfl, rfl⟩
      go_wp2_with fail
      refine (hI _).mono ?_
      rintro e w1 ⟨rfl, rfl⟩
      go_wp2_with fail
      go_ret
      exact ⟨ret_bool HS.out.symm, rfl⟩
theorem part_cut {l : List UInt8} {flow : Bool} {te q E : Nat} (h : partF l flow (te - q) q = E) (hq : q < te) (hc : cutsN l q flow = true) : E = q := by
  rw [show te - q = (te - (q + 1)) + 1 by omega, partF, if_pos hc] at h
  exact h.symm
theorem part_on {l : List UInt8} {flow : Bool} {te q E : Nat} (h : partF l flow (te - q) q = E) (hq : q < te) (hc : cutsN l q flow = false) : partF l flow (te - (q + 1)) (q + 1) = E := by
  rw [show te - q = (te - (q + 1)) + 1 by omega, partF, if_neg (by rw [hc]; decide)] at h
  exact h
theorem cuts_35 {l : List UInt8} {q : Nat} {flow : Bool} (h : byt l q = 35) : cutsN l q flow = (decide (0 < q) && whN (byt l (q - 1))) := by unfold cutsN; rw [if_pos h]
theorem cuts_58 {l : List UInt8} {q : Nat} {flow : Bool} (h : byt l q = 58) : cutsN l q flow = stopsN l q flow := by unfold cutsN; rw [if_neg (by omega), if_pos h]
theorem cuts_el {l : List UInt8} {q : Nat} {flow : Bool} (h : byt l q ≠ 35) (h2 : byt l q ≠ 58) : cutsN l q flow = (flow && flowN (byt l q)) := by unfold cutsN; rw [if_neg h, if_neg h2]
set_option maxRecDepth 100000 in
set_option maxHeartbeats 8000000 in
theorem rpart_c (l : List UInt8) (p : Nat) (flow : Bool) (w : World) (hs : l.length ≤ 1000000) (hp : p ≤ l.length) :
    Calls Tryz.prog 45 #[.string ⟨l.toArray⟩, .int .i64 p, .bool flow] w fun e w' => e = .returned (.int .i64 (partM l p flow)) ∧ w = w' := by
  obtain ⟨S, hS⟩ : ∃ S, S = partM l p flow := ⟨_, rfl⟩
  rw [← hS]
  unfold partM at hS
  by_cases hlt : p < l.length
  · rw [if_pos hlt] at hS
    have hto := rowTo_le (l := l) (p := p) hp
    have hge := rowTo_ge l p
    have hoff : rowTo l p < l.length → byt l (rowTo l p) = 10 := rowTo_off
    have hin : ∀ j, p ≤ j → j < rowTo l p → byt l j ≠ 10 := fun j h1 h2 => rowTo_in h1 h2
    have hpe := partF_le l flow (rowTo l p - p) p
    obtain ⟨E, hE⟩ : ∃ E, E = partF l flow (rowTo l p - p) p := ⟨_, rfl⟩
    rw [← hE] at hS hpe
    have HS := Lib.hid hS
    have HE := Lib.hid hE
    generalize rowTo l p = te at *
    have HIN := Lib.hid hin
    have HOFF := Lib.hid hoff
    clear hS hE hin hoff
    have gd0 : decide ((p : Int) < 0) = false := decide_eq_false (by omega)
    have gd1 : decide ((l.length : Int) ≤ (p : Int)) = false := decide_eq_false (by omega)
    have gd2 : decide (l.length ≤ p) = false := decide_eq_false (by omega)
    go_enter Tryz.func45, Tryz.ntmps45
    go_upto_block 0 with fail
    go_cut [7, 8] from 19 to 71 (fun s7 _ wx => s7 = .int .i64 E ∧ w = wx)
    case first =>
      clear HS
      go_wp2_with fail
      go_loopg [7, 8] (te - p) (fun gk s7 _ wr => ∃ q : Nat, p ≤ q ∧ q ≤ te ∧ gk = te - q ∧ s7 = .int .i64 q ∧ w = wr ∧ Hid (partF l flow (te - q) q = E))
      case atStart => exact ⟨p, Nat.le_refl _, hge, rfl, rfl, rfl, Lib.hid HE.out.symm⟩
      case round =>
        clear HE
        obtain ⟨q, hpq, hqt, hgk, rfl, rfl, HR⟩ := hrel
        by_cases hlq : q < te
        · have hql : q < l.length := by omega
          have h10 := HIN.out q hpq hlq
          have g10 : ((byt l q : Int) != 10) = true := by rw [bne_iff_ne]; omega
          have hF := fun w => rflow_c (byt l q) w (byt_lt l q)
          clear HIN HOFF h10
          by_cases h35 : byt l q = 35
          · have g35 : ((byt l q : Int) == 35) = true := by rw [h35]; rfl
            have g58 : ((byt l q : Int) == 58) = false := by rw [h35]; rfl
            have hfl : flowN (byt l q) = false := by rw [h35]; rfl
            rw [hfl] at hF
            clear hfl
            rcases Nat.eq_zero_or_pos q with h0 | h0
            · subst h0
              cases flow with
              | false =>
                have HR2 : Hid (partF l false (te - (0 + 1)) (0 + 1) = E) := Lib.hid (part_on HR.out hlq (by rw [cuts_35 h35]; rfl))
                clear HR h35
                go_wp2_with fail
                go_roundg (te - (0 + 1))
                case measure => omega
                case rel => exact ⟨0 + 1, by omega, by omega, rfl, by go_num, rfl, HR2⟩
              | true =>
                have HR2 : Hid (partF l true (te - (0 + 1)) (0 + 1) = E) := Lib.hid (part_on HR.out hlq (by rw [cuts_35 h35]; rfl))
                clear HR h35
                go_wp2_with fail
                refine (hF _).mono ?_
                rintro e w2 ⟨rfl, rfl⟩
                go_wp2_with fail
                go_roundg (te - (0 + 1))
                case measure => omega
                case rel => exact ⟨0 + 1, by omega, by omega, rfl, by go_num, rfl, HR2⟩
            · have hW := fun w => rwhite_c (byt l (q - 1)) w (byt_lt l _)
              have hq1 : IntKind.i64.wrap ((q : Int) - 1) = ((q - 1 : Nat) : Int) := by rw [IntWalk.i64_in _ (by omega)]; omega
              have hql1 : q - 1 < l.length := by omega
              have hc := cuts_35 (flow := flow) h35
              rw [decide_eq_true h0, Bool.true_and] at hc
              generalize q - 1 = q1 at *
              generalize whN (byt l q1) = wv at *
              cases wv with
              | true =>
                have HE2 : Hid (E = q) := Lib.hid (part_cut HR.out hlq (by exact hc))
                clear HR h35 hc
                go_wp2_with fail
                refine (hW _).mono ?_
                rintro e w2 ⟨rfl, rfl⟩
                go_wp2_with fail
                go_meet
                exact ⟨by rw [HE2.out], rfl⟩
              | false =>
                cases flow with
                | false =>
                  have HR2 : Hid (partF l false (te - (q + 1)) (q + 1) = E) := Lib.hid (part_on HR.out hlq (by exact hc))
                  clear HR h35 hc
                  go_wp2_with fail
                  refine (hW _).mono ?_
                  rintro e w2 ⟨rfl, rfl⟩
                  go_wp2_with fail
                  go_roundg (te - (q + 1))
                  case measure => omega
                  case rel => exact ⟨q + 1, by omega, by omega, rfl, by go_num, rfl, HR2⟩
                | true =>
                  have HR2 : Hid (partF l true (te - (q + 1)) (q + 1) = E) := Lib.hid (part_on HR.out hlq (by exact hc))
                  clear HR h35 hc
                  go_wp2_with fail
                  refine (hW _).mono ?_
                  rintro e w2 ⟨rfl, rfl⟩
                  go_wp2_with fail
                  refine (hF _).mono ?_
                  rintro e w2 ⟨rfl, rfl⟩
                  go_wp2_with fail
                  go_roundg (te - (q + 1))
                  case measure => omega
                  case rel => exact ⟨q + 1, by omega, by omega, rfl, by go_num, rfl, HR2⟩
          have g35 : ((byt l q : Int) == 35) = false := by rw [beq_eq_false_iff_ne]; omega
          by_cases h58 : byt l q = 58
          · have g58 : ((byt l q : Int) == 58) = true := by rw [h58]; rfl
            have hfl : flowN (byt l q) = false := by rw [h58]; rfl
            rw [hfl] at hF
            clear hfl
            have hE1 := fun w => rends_c l (q + 1) w (by omega) (by omega)
            rw [show ((q + 1 : Nat) : Int) = (q : Int) + 1 by omega] at hE1
            have hF1 := fun w => rflow_c (byt l (q + 1)) w (byt_lt l _)
            have hw1 : IntKind.i64.wrap ((q : Int) + 1) = (q : Int) + 1 := IntWalk.i64_in _ (by omega)
            have hi1 : ((q : Int) + 1).toNat = q + 1 := by omega
            have hin1 : endsM l (q + 1) = false → q + 1 < l.length := ends_in
            have hst := stops_ways l q flow
            have hc := cuts_58 (flow := flow) h58
            generalize stopsN l q flow = st at *
            generalize endsM l (q + 1) = e1 at *
            generalize flowN (byt l (q + 1)) = fl1 at *
            rcases hst with ⟨rfl, rfl⟩ | ⟨rfl, rfl, rfl⟩ | ⟨rfl, rfl, rfl⟩
            · clear hin1 hF1
              cases flow with
              | false =>
                have HE2 : Hid (E = q) := Lib.hid (part_cut HR.out hlq (by exact hc))
                clear HR h35 h58 hc
                go_wp2_with fail
                refine (hE1 _).mono ?_
                rintro e w2 ⟨rfl, rfl⟩
                go_wp2_with fail
                go_meet
                exact ⟨by rw [HE2.out], rfl⟩
              | true =>
                have HE2 : Hid (E = q) := Lib.hid (part_cut HR.out hlq (by exact hc))
                clear HR h35 h58 hc
                go_wp2_with fail
                refine (hF _).mono ?_
                rintro e w2 ⟨rfl, rfl⟩
                go_wp2_with fail
                refine (hE1 _).mono ?_
                rintro e w2 ⟨rfl, rfl⟩
                go_wp2_with fail
                go_meet
                exact ⟨by rw [HE2.out], rfl⟩
            · have hlt1 := hin1 rfl
              clear hin1 hF1
              have HR2 : Hid (partF l false (te - (q + 1)) (q + 1) = E) := Lib.hid (part_on HR.out hlq (by exact hc))
              clear HR h35 h58 hc
              go_wp2_with fail
              refine (hE1 _).mono ?_
              rintro e w2 ⟨rfl, rfl⟩
              go_wp2_with fail
              go_roundg (te - (q + 1))
              case measure => omega
              case rel => exact ⟨q + 1, by omega, by omega, rfl, by go_num, rfl, HR2⟩
            · have hlt1 := hin1 rfl
              clear hin1
              cases st with
              | true =>
                have HE2 : Hid (E = q) := Lib.hid (part_cut HR.out hlq (by exact hc))
                clear HR h35 h58 hc
                go_wp2_with fail
                refine (hF _).mono ?_
                rintro e w2 ⟨rfl, rfl⟩
                go_wp2_with fail
                refine (hE1 _).mono ?_
                rintro e w2 ⟨rfl, rfl⟩
                go_wp2_with fail
                refine (hF1 _).mono ?_
                rintro e w2 ⟨rfl, rfl⟩
                go_wp2_with fail
                go_meet
                exact ⟨by rw [HE2.out], rfl⟩
              | false =>
                have HR2 : Hid (partF l true (te - (q + 1)) (q + 1) = E) := Lib.hid (part_on HR.out hlq (by exact hc))
                clear HR h35 h58 hc
                go_wp2_with fail
                refine (hF _).mono ?_
                rintro e w2 ⟨rfl, rfl⟩
                go_wp2_with fail
                refine (hE1 _).mono ?_
                rintro e w2 ⟨rfl, rfl⟩
                go_wp2_with fail
                refine (hF1 _).mono ?_
                rintro e w2 ⟨rfl, rfl⟩
                go_wp2_with fail
                go_roundg (te - (q + 1))
                case measure => omega
                case rel => exact ⟨q + 1, by omega, by omega, rfl, by go_num, rfl, HR2⟩
          have g58 : ((byt l q : Int) == 58) = false := by rw [beq_eq_false_iff_ne]; omega
          have hc := cuts_el (flow := flow) h35 h58
          generalize flowN (byt l q) = fl at *
          cases flow with
          | false =>
            have HR2 : Hid (partF l false (te - (q + 1)) (q + 1) = E) := Lib.hid (part_on HR.out hlq (by exact hc))
            clear HR h35 h58 hc
            go_wp2_with fail
            go_roundg (te - (q + 1))
            case measure => omega
            case rel => exact ⟨q + 1, by omega, by omega, rfl, by go_num, rfl, HR2⟩
          | true =>
            cases fl with
            | true =>
              have HE2 : Hid (E = q) := Lib.hid (part_cut HR.out hlq (by exact hc))
              clear HR h35 h58 hc
              go_wp2_with fail
              refine (hF _).mono ?_
              rintro e w2 ⟨rfl, rfl⟩
              go_wp2_with fail
              go_meet
              exact ⟨by rw [HE2.out], rfl⟩
            | false =>
              have HR2 : Hid (partF l true (te - (q + 1)) (q + 1) = E) := Lib.hid (part_on HR.out hlq (by exact hc))
              clear HR h35 h58 hc
              go_wp2_with fail
              refine (hF _).mono ?_
              rintro e w2 ⟨rfl, rfl⟩
              go_wp2_with fail
              go_roundg (te - (q + 1))
              case measure => omega
              case rel => exact ⟨q + 1, by omega, by omega, rfl, by go_num, rfl, HR2⟩
        · obtain rfl : q = te := by omega
          have HE2 : Hid (E = q) := Lib.hid (by have h1 := HR.out; rw [Nat.sub_self, partF] at h1; exact h1.symm)
          clear HR HIN
          by_cases hql : q < l.length
          · have h10 := HOFF.out hql
            have g10 : ((byt l q : Int) != 10) = false := by rw [h10]; rfl
            clear HOFF h10
            go_wp2_with fail
            go_meet
            exact ⟨by rw [HE2.out], rfl⟩
          · clear HOFF
            go_wp2_with fail
            go_meet
            exact ⟨by rw [HE2.out], rfl⟩
    case rest =>
      obtain ⟨rfl, rfl⟩ := hcut
      clear HIN HOFF HE
      have hE0 : p ≤ E ∧ E ≤ l.length := by omega
      go_wp2_with fail
      go_loopg [7] (E - p) (fun gk s7 wr => ∃ k : Nat, p + k ≤ l.length ∧ gk = k ∧ s7 = .int .i64 ((p : Int) + (k : Int)) ∧ w = wr ∧ Hid (S = trimB l p k))
      case atStart => exact ⟨E - p, by omega, rfl, by rw [show (p : Int) + ((E - p : Nat) : Int) = (E : Int) by omega], rfl, HS⟩
      case round =>
        obtain ⟨k, hk, hgk, rfl, rfl, HT⟩ := hrel
        rcases Nat.eq_zero_or_pos k with h0 | h0
        · subst h0
          have HT2 : Hid (S = p) := Lib.hid HT.out
          go_wp2_with fail
          go_ret
          exact ⟨ret_int (by rw [HT2.out]; omega), rfl⟩
        · obtain ⟨j, rfl⟩ : ∃ j, k = j + 1 := ⟨k - 1, by omega⟩
          have hW := fun w => rwhite_c (byt l (p + j)) w (byt_lt l _)
          have hi1 : (p : Int) < (p : Int) + ((j + 1 : Nat) : Int) := by omega
          have hw1 : IntKind.i64.wrap ((p : Int) + ((j + 1 : Nat) : Int) - 1) = ((p + j : Nat) : Int) := by rw [IntWalk.i64_in _ (by omega)]; omega
          have hT1 := HT.out
          rw [trimB] at hT1
          cases hwh : whN (byt l (p + j)) with
          | true =>
            rw [hwh] at hW hT1
            rw [if_pos rfl] at hT1
            have HT2 := Lib.hid hT1
            clear hwh hT1 HT
            go_wp2_with fail
            refine (hW _).mono ?_
            rintro e w2 ⟨rfl, rfl⟩
            go_wp2_with fail
            go_roundg j
            case measure => omega
            case rel => exact ⟨j, by omega, rfl, by go_num, rfl, HT2⟩
          | false =>
            rw [hwh] at hW hT1
            rw [if_neg (by decide)] at hT1
            have HT2 := Lib.hid hT1
            clear hwh hT1 HT
            go_wp2_with fail
            refine (hW _).mono ?_
            rintro e w2 ⟨rfl, rfl⟩
            go_wp2_with fail
            go_ret
            exact ⟨ret_int (by rw [HT2.out]; omega), rfl⟩
  · rw [if_neg hlt] at hS
    have HS := Lib.hid hS
    have hlt' : (l.length : Int) ≤ (p : Int) := by omega
    clear hS hlt
    go_enter Tryz.func45, Tryz.ntmps45
    go_wp2_with fail
    go_ret
    exact ⟨ret_int (by rw [HS.out]), rfl⟩
end Go.Proofs.YtjfgcbikdibjeaaGreatDoor
