/- The walks of bosketref1.Runes (for a seat without Width). -/
import Derived.Test.YtjfgcbikdibjeaaGreatDoorWOne
namespace Go.Proofs.YtjfgcbikdibjeaaGreatDoor
open Go.RowKit U

theorem Tryz.infoI32 : (Tryz.prog.info? 21).map (fun i => (i.zero, i.size, i.bytes)) = some (some (.int .i32 0), 1, 4) := by kernel_rfl

set_option maxRecDepth 100000 in
set_option maxHeartbeats 1000000 in
theorem refRunes_c (l : List UInt8) (w : World) (hs : l.length ≤ 1073741824) :
    Calls Tryz.prog 53 #[.string ⟨l.toArray⟩] w (RetRow w 21 (i32s (runes l))) := by
  obtain ⟨i0, hi, hz0, hz1, hz2⟩ := info_parts Tryz.infoI32
  go_enter Tryz.func53, Tryz.ntmps53
  go_wp2
  go_loopw [3, 4] (fun v i wr => ∃ (k : Nat) (xs : List Int), k ≤ l.length ∧ i = .int .i64 k ∧ wr.ownsRow w.heap.size 21 1 v xs.length (i32s xs) ∧ Below w.heap.size w wr ∧ Hid (xs ++ (units k (l.drop k)).map (fun u => (u.2.1 : Int)) = runes l) ∧ xs.length ≤ k) (fun _ i _ => l.length - (intOf i).toNat)
  case atStart => exact ⟨0, [], Nat.zero_le _, rfl, own_nil _ _ _, Below.refl _ _, Lib.hid rfl, Nat.le_refl _⟩
  case round =>
    obtain ⟨k, xs, hk, rfl, hown, hbw, hP, hxl⟩ := hrel
    have hsz := hbw.size
    have hc3 : xs.length + 1 ≤ maxLen := by unfold maxLen; omega
    have hc4 : (xs.length + 1) * 4 ≤ 140737488355328 := by omega
    by_cases hlt : k < l.length
    · have hne : l.drop k ≠ [] := by simp; omega
      have hu := units_cons k (l.drop k) hne
      have hw1 := dec_w_pos (l.drop k)
      have hw2 := dec_w_le (l.drop k) hne
      rw [List.length_drop] at hw2
      obtain ⟨r, n, hd⟩ : ∃ r n, dec (l.drop k) = (r, n) := ⟨_, _, rfl⟩
      rw [hd] at hu hw1 hw2
      simp only [List.drop_drop] at hu hw1 hw2
      have HU := Lib.hid hu
      have HD := Lib.hid hd
      clear hu hd hne
      cases hb : bad (l.drop k) with
      | true =>
        obtain ⟨rfl, rfl⟩ : r = 65533 ∧ n = 1 := by
          have := (dec_bad hb).symm.trans HD.out
          simp only [Prod.mk.injEq] at this
          exact ⟨this.1.symm, this.2.symm⟩
        have HB := Lib.hid hb
        clear hb
        go_wp2_with (first | (at_builtin; go_loud (refine wpList_push rfl _ _ 48 rfl w.heap.size 21 i0 (.int .i32 0) 4 Tryz.underlying48 hi hz0 hz1 hz2 rfl u3 _ _ _ rfl hown rfl rfl hc3 hc4 hbw hsz ?_); intro v1 w1 hown1 hbw1) | (go_at_call 99; refine (one_c l k _ (by omega) hlt).mono ?_; rintro e w' ⟨rfl, rfl⟩; rw [one_bad HB.out]))
        go_roundw
        case rel =>
          refine ⟨k + 1, xs ++ [65533], by omega, by go_num, by simpa [i32s_snoc] using hown1, hbw1, Lib.hid ?_, by simp; omega⟩
          rw [← hP.out, HU.out]; simp
        case measure => simp [intOf]; omega
      | false =>
        have HB := Lib.hid hb
        clear hb
        have hn0 : ((n : Int) == 0) = false := by simp; omega
        go_wp2_with (first | (at_builtin; go_loud (refine wpList_push rfl _ _ 48 rfl w.heap.size 21 i0 (.int .i32 0) 4 Tryz.underlying48 hi hz0 hz1 hz2 rfl u3 _ _ _ rfl hown rfl rfl hc3 hc4 hbw hsz ?_); intro v1 w1 hown1 hbw1) | (go_at_call 99; refine (one_c l k _ (by omega) hlt).mono ?_; rintro e w' ⟨rfl, rfl⟩; rw [one_good HB.out, HD.out]))
        go_roundw
        case rel =>
          refine ⟨k + n, xs ++ [(r : Int)], by omega, by go_num, by simpa [i32s_snoc] using hown1, hbw1, Lib.hid ?_, by simp; omega⟩
          rw [← hP.out, HU.out]; simp
        case measure => simp [intOf]; omega
    · go_wp2
      go_ret
      have : xs = runes l := by rw [← hP.out, List.drop_eq_nil_of_le (by omega)]; simp [units_nil]
      subst this
      exact retRow_of (i32s_length _) hown hbw

end Go.Proofs.YtjfgcbikdibjeaaGreatDoor
