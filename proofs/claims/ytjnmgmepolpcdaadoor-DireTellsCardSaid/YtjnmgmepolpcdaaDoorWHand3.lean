/- The walk of hand.handle. -/
import Derived.Test.YtjnmgmepolpcdaaDoorWHand
namespace Go.Proofs.YtjnmgmepolpcdaaDoor
open Go.RowKit U Go.Proofs

set_option maxRecDepth 100000 in
set_option maxHeartbeats 4000000 in
theorem hhandle_c (l : List UInt8) (w : World) (hs : l.length ≤ 1073741824) (hp : 1 ≤ l.length) : Calls Tryd.prog 133 #[.string ⟨l.toArray⟩] w fun e w' => e = .returned (.int .i64 (handleM l)) ∧ w = w' := by
  go_enter Tryd.func133, Tryd.ntmps133
  go_wp2_with fail
  go_loop [3] (fun n => ∃ k : Nat, 1 ≤ k ∧ k ≤ l.length ∧ n = .int .i64 k ∧ Hid (k + wordsLen (l.drop k) = 1 + wordsLen (l.drop 1))) (fun n => l.length - (intOf n).toNat)
  case atStart => exact ⟨1, by omega, by omega, rfl, Lib.hid rfl⟩
  case round =>
    obtain ⟨k, hk1, hk, rfl, hK⟩ := hrel
    by_cases hlt : k < l.length
    · have hbl := byt_lt l k
      have hstep := wordsLen_at hlt
      have hU := fun w => sword_c (byt l k) w hbl
      generalize wordN (byt l k) = u at *
      have HS := Lib.hid hstep
      clear hstep
      cases u with
      | true =>
        have hn : Hid (k + 1 + wordsLen (l.drop (k + 1)) = 1 + wordsLen (l.drop 1)) := Lib.hid (by rw [← hK.out, HS.out, if_pos rfl]; omega)
        go_wp2_with fail
        refine (hU _).mono ?_
        rintro e w1 ⟨rfl, rfl⟩
        go_wp2_with fail
        go_round
        case rel => exact ⟨k + 1, by omega, by omega, by go_num, hn⟩
        case measure => simp [intOf]; omega
      | false =>
        have hf : 1 + wordsLen (l.drop 1) = k := by rw [← hK.out, HS.out, if_neg (by decide)]; rfl
        by_cases h33 : byt l k = 33
        · have hr : Hid (handleM l = k + 1) := Lib.hid (by rw [handleM, hf, if_pos ⟨hlt, h33⟩])
          have g33 : ((byt l k : Int) == 33) = true := by rw [beq_iff_eq]; omega
          clear hf h33
          go_wp2_with fail
          refine (hU _).mono ?_
          rintro e w1 ⟨rfl, rfl⟩
          go_wp2_with fail
          go_ret
          exact ⟨ret_int (by rw [hr.out]; go_num), rfl⟩
        · have hr : Hid (handleM l = 0) := Lib.hid (by rw [handleM, hf, if_neg (fun h => h33 h.2)])
          have g33 : ((byt l k : Int) == 33) = false := by simp; omega
          clear hf h33
          go_wp2_with fail
          refine (hU _).mono ?_
          rintro e w1 ⟨rfl, rfl⟩
          go_wp2_with fail
          go_ret
          exact ⟨ret_int (by rw [hr.out]; rfl), rfl⟩
    · have hf : 1 + wordsLen (l.drop 1) = k := by rw [← hK.out, List.drop_eq_nil_of_le (by omega)]; rfl
      have hr : Hid (handleM l = 0) := Lib.hid (by rw [handleM, hf, if_neg (fun h => hlt h.1)])
      clear hf
      go_wp2_with fail
      go_ret
      exact ⟨ret_int (by rw [hr.out]; rfl), rfl⟩
end Go.Proofs.YtjnmgmepolpcdaaDoor
