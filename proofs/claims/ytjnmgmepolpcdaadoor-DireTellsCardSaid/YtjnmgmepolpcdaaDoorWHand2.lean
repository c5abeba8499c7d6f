/- The walk of hand.uris. -/
import Derived.Test.YtjnmgmepolpcdaaDoorWHand
namespace Go.Proofs.YtjnmgmepolpcdaaDoor
open Go.RowKit U Go.Proofs

set_option maxRecDepth 100000 in
set_option maxHeartbeats 4000000 in
theorem uris_c (l : List UInt8) (tight : Bool) (w : World) (hs : l.length ≤ 1073741824) : Calls Tryd.prog 132 #[.string ⟨l.toArray⟩, .bool tight] w fun e w' => e = .returned (.int .i64 (urisM tight l)) ∧ w = w' := by
  go_enter Tryd.func132, Tryd.ntmps132
  go_wp2_with fail
  go_loop [5] (fun n => ∃ k : Nat, k ≤ l.length ∧ n = .int .i64 k ∧ Hid (k + urisM tight (l.drop k) = urisM tight l)) (fun n => l.length - (intOf n).toNat)
  case atStart => exact ⟨0, by omega, rfl, Lib.hid (by simp)⟩
  case round =>
    obtain ⟨k, hk, rfl, hK⟩ := hrel
    by_cases hlt : k < l.length
    · have hbl := byt_lt l k
      have hstep := urisM_at tight hlt
      have hU := fun w => uri_c (byt l k) w hbl
      have hF := fun w => flow_c (byt l k) w hbl
      have hP := fun w => percent_c (l.drop k) w (by rw [List.length_drop]; omega)
      unfold stepB at hstep
      rw [byt_drop, Nat.add_zero] at hstep
      generalize uriN (byt l k) = u at *
      generalize flowN (byt l k) = f at *
      generalize pctN (l.drop k) = p at *
      have HS := Lib.hid hstep
      clear hstep
      cases u with
      | false =>
        have hf : Hid (urisM tight l = k) := Lib.hid (by rw [← hK.out, HS.out, if_neg (by simp), Nat.add_zero])
        try clear h37
        try clear h33
        go_wp2_with fail
        refine (hU _).mono ?_
        rintro e w1 ⟨rfl, rfl⟩
        go_wp2_with fail
        go_ret
        exact ⟨ret_int (by rw [hf.out]), rfl⟩
      | true =>
        by_cases h37 : byt l k = 37
        · have g37 : ((byt l k : Int) != 37) = false := by simp; omega
          have g33 : ((byt l k : Int) == 33) = false := by simp; omega
          cases p with
          | false =>
            have hf : Hid (urisM tight l = k) := Lib.hid (by rw [← hK.out, HS.out, if_neg (by simp [h37]), Nat.add_zero])
            try clear h37
            try clear h33
            go_wp2_with fail
            refine (hU _).mono ?_
            rintro e w1 ⟨rfl, rfl⟩
            go_wp2_with fail
            refine (hP _).mono ?_
            rintro e w1 ⟨rfl, rfl⟩
            go_wp2_with fail
            go_ret
            exact ⟨ret_int (by rw [hf.out]), rfl⟩
          | true =>
            cases tight with
            | false =>
              have hn : Hid (k + 1 + urisM false (l.drop (k + 1)) = urisM false l) := Lib.hid (by rw [← hK.out, HS.out, if_pos (by simp)]; omega)
              try clear h37
              try clear h33
              go_wp2_with fail
              refine (hU _).mono ?_
              rintro e w1 ⟨rfl, rfl⟩
              go_wp2_with fail
              refine (hP _).mono ?_
              rintro e w1 ⟨rfl, rfl⟩
              go_wp2_with fail
              go_round
              case rel => exact ⟨k + 1, by omega, by go_num, hn⟩
              case measure => simp [intOf]; omega
            | true =>
              cases f with
              | true =>
                have hf : Hid (urisM true l = k) := Lib.hid (by rw [← hK.out, HS.out, if_neg (by simp), Nat.add_zero])
                try clear h37
                try clear h33
                go_wp2_with fail
                refine (hU _).mono ?_
                rintro e w1 ⟨rfl, rfl⟩
                go_wp2_with fail
                refine (hP _).mono ?_
                rintro e w1 ⟨rfl, rfl⟩
                go_wp2_with fail
                refine (hF _).mono ?_
                rintro e w1 ⟨rfl, rfl⟩
                go_wp2_with fail
                go_ret
                exact ⟨ret_int (by rw [hf.out]), rfl⟩
              | false =>
                have hn : Hid (k + 1 + urisM true (l.drop (k + 1)) = urisM true l) := Lib.hid (by rw [← hK.out, HS.out, if_pos (by simp [h37])]; omega)
                try clear h37
                try clear h33
                go_wp2_with fail
                refine (hU _).mono ?_
                rintro e w1 ⟨rfl, rfl⟩
                go_wp2_with fail
                refine (hP _).mono ?_
                rintro e w1 ⟨rfl, rfl⟩
                go_wp2_with fail
                refine (hF _).mono ?_
                rintro e w1 ⟨rfl, rfl⟩
                go_wp2_with fail
                go_round
                case rel => exact ⟨k + 1, by omega, by go_num, hn⟩
                case measure => simp [intOf]; omega
        · have g37 : ((byt l k : Int) != 37) = true := by simp; omega
          cases tight with
          | false =>
            have hn : Hid (k + 1 + urisM false (l.drop (k + 1)) = urisM false l) := Lib.hid (by rw [← hK.out, HS.out, if_pos (by simp [h37])]; omega)
            try clear h37
            try clear h33
            go_wp2_with fail
            refine (hU _).mono ?_
            rintro e w1 ⟨rfl, rfl⟩
            go_wp2_with fail
            go_round
            case rel => exact ⟨k + 1, by omega, by go_num, hn⟩
            case measure => simp [intOf]; omega
          | true =>
            by_cases h33 : byt l k = 33
            · have g33 : ((byt l k : Int) == 33) = true := by simp; omega
              have hf : Hid (urisM true l = k) := Lib.hid (by rw [← hK.out, HS.out, if_neg (by simp [h33]), Nat.add_zero])
              try clear h37
              try clear h33
              go_wp2_with fail
              refine (hU _).mono ?_
              rintro e w1 ⟨rfl, rfl⟩
              go_wp2_with fail
              go_ret
              exact ⟨ret_int (by rw [hf.out]), rfl⟩
            · have g33 : ((byt l k : Int) == 33) = false := by simp; omega
              cases f with
              | true =>
                have hf : Hid (urisM true l = k) := Lib.hid (by rw [← hK.out, HS.out, if_neg (by simp), Nat.add_zero])
                try clear h37
                try clear h33
                go_wp2_with fail
                refine (hU _).mono ?_
                rintro e w1 ⟨rfl, rfl⟩
                go_wp2_with fail
                refine (hF _).mono ?_
                rintro e w1 ⟨rfl, rfl⟩
                go_wp2_with fail
                go_ret
                exact ⟨ret_int (by rw [hf.out]), rfl⟩
              | false =>
                have hn : Hid (k + 1 + urisM true (l.drop (k + 1)) = urisM true l) := Lib.hid (by rw [← hK.out, HS.out, if_pos (by simp [h37, h33])]; omega)
                try clear h37
                try clear h33
                go_wp2_with fail
                refine (hU _).mono ?_
                rintro e w1 ⟨rfl, rfl⟩
                go_wp2_with fail
                refine (hF _).mono ?_
                rintro e w1 ⟨rfl, rfl⟩
                go_wp2_with fail
                go_round
                case rel => exact ⟨k + 1, by omega, by go_num, hn⟩
                case measure => simp [intOf]; omega
    · have hf : Hid (urisM tight l = k) := Lib.hid (by rw [← hK.out, List.drop_eq_nil_of_le (by omega)]; rfl)
      go_wp2_with fail
      go_ret
      exact ⟨ret_int (by rw [hf.out]), rfl⟩
end Go.Proofs.YtjnmgmepolpcdaaDoor
