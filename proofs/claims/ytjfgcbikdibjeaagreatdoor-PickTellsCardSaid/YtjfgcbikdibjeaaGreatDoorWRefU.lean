/- The walk of bosketref1.Place. -/
import Derived.Test.YtjfgcbikdibjeaaGreatDoorWOne
namespace Go.Proofs.YtjfgcbikdibjeaaGreatDoor
open Go.RowKit U

set_option maxRecDepth 100000 in
set_option maxHeartbeats 1000000 in
theorem refPlace_c (l : List UInt8) (w : World) (hs : l.length ≤ 4611686018427387904) :
    Calls Tryz.prog 52 #[.string ⟨l.toArray⟩] w fun e w' => e = .returned (.int .i64 (place l)) ∧ w = w' := by
  go_enter Tryz.func52, Tryz.ntmps52
  go_wp2
  go_loop [3] (fun i => ∃ k : Nat, k ≤ l.length ∧ i = .int .i64 k ∧ Hid (placeOf (units k (l.drop k)) = place l)) (fun i => l.length - (intOf i).toNat)
  case atStart => exact ⟨0, Nat.zero_le _, rfl, Lib.hid rfl⟩
  case round =>
    obtain ⟨k, hk, rfl, hP⟩ := hrel
    by_cases hlt : k < l.length
    · have hne : l.drop k ≠ [] := by simp; omega
      have hu := units_cons k (l.drop k) hne
      have hw1 := dec_w_pos (l.drop k)
      have hw2 := dec_w_le (l.drop k) hne
      rw [List.length_drop] at hw2
      obtain ⟨r, n, hd⟩ : ∃ r n, dec (l.drop k) = (r, n) := ⟨_, _, rfl⟩
      have hbd := bad_of hd
      rw [hd] at hu hw1 hw2
      simp only [List.drop_drop] at hu hw1 hw2
      have HU := Lib.hid hu
      have HD := Lib.hid hd
      clear hu hd hne
      cases hb : bad (l.drop k) with
      | true =>
        rw [hb] at hbd
        have HB := Lib.hid hb
        have HBD := Lib.hid hbd
        clear hb hbd
        go_wp2_with (go_at_call 99; refine (one_c l k _ (by omega) hlt).mono ?_; rintro e w' ⟨rfl, rfl⟩; rw [one_bad HB.out])
        go_ret
        refine ⟨ret_int ?_, rfl⟩
        rw [← hP.out, HU.out, placeOf_bad _ _ HBD.out.symm]
      | false =>
        rw [hb] at hbd
        have HB := Lib.hid hb
        have HBD := Lib.hid hbd
        clear hb hbd
        have hn0 : ((n : Int) == 0) = false := by simp; omega
        go_wp2_with (go_at_call 99; refine (one_c l k _ (by omega) hlt).mono ?_; rintro e w' ⟨rfl, rfl⟩; rw [one_good HB.out, HD.out])
        go_round
        case rel =>
          refine ⟨k + n, by omega, by go_num, Lib.hid ?_⟩
          rw [← hP.out, HU.out, placeOf_good _ _ HBD.out.symm]
        case measure => simp [intOf]; omega
    · go_wp2
      go_ret
      refine ⟨ret_int ?_, rfl⟩
      rw [← hP.out, List.drop_eq_nil_of_le (by omega)]
      rfl
end Go.Proofs.YtjfgcbikdibjeaaGreatDoor
