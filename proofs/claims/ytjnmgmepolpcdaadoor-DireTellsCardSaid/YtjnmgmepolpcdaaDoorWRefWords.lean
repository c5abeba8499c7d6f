/- The walk of bosketref1.words. -/
import Derived.Test.YtjnmgmepolpcdaaDoorWRefSign
import Derived.Test.YtjnmgmepolpcdaaDoorLong
namespace Go.Proofs.YtjnmgmepolpcdaaDoor
open Go.RowKit U Go.Proofs

theorem Tryd.infoStr : (Tryd.prog.info? 9).map (fun i => (i.zero, i.size, i.bytes)) = some (some (.string ⟨#[]⟩), 1, 16) := by kernel_rfl
theorem strs_snoc (xs : List (List UInt8)) (x : List UInt8) : strs (xs ++ [x]) = strs xs ++ [.string ⟨x.toArray⟩] := by simp [strs]
/-- What stands between two places. -/
def betw (l : List UInt8) (a b : Nat) : List UInt8 := (l.drop a).take (b - a)
theorem betw_snoc {l : List UInt8} {a k : Nat} (ha : a ≤ k) (h : k < l.length) : betw l a (k + 1) = betw l a k ++ [l[k]'h] := by
  unfold betw
  rw [show k + 1 - a = (k - a) + 1 by omega, List.take_succ_eq_append_getElem (by rw [List.length_drop]; omega), List.getElem_drop]
  congr 2
  congr 1
  omega
theorem betw_emp {l : List UInt8} {a k : Nat} (hk : k ≤ l.length) : (betw l a k).isEmpty = decide (k ≤ a) := by
  unfold betw
  rw [emp_len, List.length_take, List.length_drop, Bool.eq_iff_iff, decide_eq_true_eq, decide_eq_true_eq]
  omega
set_option maxRecDepth 100000 in
set_option maxHeartbeats 4000000 in
theorem rwords_c (l : List UInt8) (w : World) (hs : l.length ≤ 1073741824) :
    Calls Tryd.prog 58 #[.string ⟨l.toArray⟩] w (RetRow w 9 (strs (wordsM l))) := by
  obtain ⟨i0, hi, hz0, hz1, hz2⟩ := info_parts Tryd.infoStr
  go_enter Tryd.func58, Tryd.ntmps58
  go_wp2_with fail
  go_loopw [3, 4, 5] (fun v f i wr => ∃ (k a : Nat) (xs : List (List UInt8)), k ≤ l.length + 1 ∧ a ≤ k ∧ i = .int .i64 k ∧ f = .int .i64 a ∧ wr.ownsRow w.heap.size 9 1 v xs.length (strs xs) ∧ Below w.heap.size w wr ∧ Hid (xs ++ wordsF (betw l a k) (l.drop k) = wordsM l) ∧ xs.length ≤ k ∧ Hid (l.length < k → a = k)) (fun _ _ i _ => l.length + 1 - (intOf i).toNat)
  case atStart => exact ⟨0, 0, [], Nat.zero_le _, Nat.le_refl _, rfl, rfl, own_nil _ _ _, Below.refl _ _, Lib.hid (by simp [betw, wordsM]), Nat.le_refl _, Lib.hid (fun h => by omega)⟩
  case round =>
    obtain ⟨k, a, xs, hk, ha, rfl, rfl, hown, hbw, hP, hxl, hA0⟩ := hrel
    have hsz := hbw.size
    have hc3 : xs.length + 1 ≤ maxLen := by unfold maxLen; omega
    have hc4 : (xs.length + 1) * 16 ≤ 140737488355328 := by omega
    by_cases hle : k ≤ l.length
    · have hbe := betw_emp (l := l) (a := a) hle
      by_cases hlt : k < l.length
      · have hd := List.drop_eq_getElem_cons hlt
        have hbs := betw_snoc ha hlt
        have hwb : wh (l[k]'hlt) = whN (byt l k) := by unfold wh; rw [byt_get l k hlt]
        have hW := fun w => rwhite_c (byt l k) w (byt_lt l k)
        generalize hb : whN (byt l k) = b at *
        clear hb
        cases b with
        | false =>
          have hn : Hid (xs ++ wordsF (betw l a (k + 1)) (l.drop (k + 1)) = wordsM l) := Lib.hid (by
            rw [← hP.out, hd, wordsF, if_neg (by rw [hwb]; decide), hbs])
          clear hd hbs hwb hbe
          go_wp2_with fail
          refine (hW _).mono ?_
          rintro e w1 ⟨rfl, rfl⟩
          go_wp2_with fail
          exact ⟨⟨k + 1, a, xs, by omega, by omega, by go_num, rfl, hown, hbw, hn, by omega, Lib.hid (fun h => by omega)⟩, by simp [intOf]; omega⟩
        | true =>
          have hz : betw l (k + 1) (k + 1) = [] := by simp [betw]
          by_cases hka : a < k
          · have hn : Hid ((xs ++ [betw l a k]) ++ wordsF (betw l (k + 1) (k + 1)) (l.drop (k + 1)) = wordsM l) := Lib.hid (by
              rw [← hP.out, hd, wordsF_yes _ _ _ hwb, hbe, hz, decide_eq_false (by omega)]; simp)
            clear hd hbs hwb hbe hz
            go_wp2_with fail
            refine (hW _).mono ?_
            rintro e w1 ⟨rfl, rfl⟩
            go_wp2_with (at_builtin; go_loud (refine wpList_push rfl _ _ 27 rfl w.heap.size 9 i0 (.string ⟨#[]⟩) 16 Tryd.underlying27 hi hz0 hz1 hz2 rfl u3 _ _ _ rfl hown rfl rfl hc3 hc4 hbw hsz ?_); intro v1 w2 hown1 hbw1)
            exact ⟨⟨k + 1, k + 1, xs ++ [betw l a k], by omega, by omega, by go_num, by go_num, by simpa [strs_snoc, betw] using hown1, hbw1, hn, by simp; omega, Lib.hid (fun h => by omega)⟩, by simp [intOf]; omega⟩
          · have hn : Hid (xs ++ wordsF (betw l (k + 1) (k + 1)) (l.drop (k + 1)) = wordsM l) := Lib.hid (by
              rw [← hP.out, hd, wordsF_yes _ _ _ hwb, hbe, hz, decide_eq_true (by omega)]; simp)
            clear hd hbs hwb hbe hz
            go_wp2_with fail
            refine (hW _).mono ?_
            rintro e w1 ⟨rfl, rfl⟩
            go_wp2_with fail
            exact ⟨⟨k + 1, k + 1, xs, by omega, by omega, by go_num, by go_num, hown, hbw, hn, by omega, Lib.hid (fun h => by omega)⟩, by simp [intOf]; omega⟩
      · have hz : betw l (k + 1) (k + 1) = [] := by simp [betw]
        have hd : l.drop k = [] := List.drop_eq_nil_of_le (by omega)
        have hd2 : l.drop (k + 1) = [] := List.drop_eq_nil_of_le (by omega)
        by_cases hka : a < k
        · have hn : Hid ((xs ++ [betw l a k]) ++ wordsF (betw l (k + 1) (k + 1)) (l.drop (k + 1)) = wordsM l) := Lib.hid (by
            rw [← hP.out, hd, hd2, hz, wordsF, wordsF, hbe, decide_eq_false (by omega)]; simp)
          clear hd hd2 hbe hz
          go_wp2_with (at_builtin; go_loud (refine wpList_push rfl _ _ 27 rfl w.heap.size 9 i0 (.string ⟨#[]⟩) 16 Tryd.underlying27 hi hz0 hz1 hz2 rfl u3 _ _ _ rfl hown rfl rfl hc3 hc4 hbw hsz ?_); intro v1 w2 hown1 hbw1)
          exact ⟨⟨k + 1, k + 1, xs ++ [betw l a k], by omega, by omega, by go_num, by go_num, by simpa [strs_snoc, betw] using hown1, hbw1, hn, by simp; omega, Lib.hid (fun h => by omega)⟩, by simp [intOf]; omega⟩
        · have hn : Hid (xs ++ wordsF (betw l (k + 1) (k + 1)) (l.drop (k + 1)) = wordsM l) := Lib.hid (by
            rw [← hP.out, hd, hd2, hz, wordsF, wordsF, hbe, decide_eq_true (by omega)]; simp)
          clear hd hd2 hbe hz
          go_wp2_with fail
          exact ⟨⟨k + 1, k + 1, xs, by omega, by omega, by go_num, by go_num, hown, hbw, hn, by omega, Lib.hid (fun h => by omega)⟩, by simp [intOf]; omega⟩
    · have hx : xs = wordsM l := by
        have h1 := hP.out
        rw [List.drop_eq_nil_of_le (by omega), wordsF] at h1
        have hbe : (betw l a k).isEmpty = true ∨ (betw l a k).isEmpty = false := by cases (betw l a k).isEmpty <;> simp
        rcases hbe with hbe | hbe
        · rw [hbe] at h1
          simpa using h1
        · rw [hbe] at h1
          exact absurd hA0.out (by
            intro hh
            unfold betw at hbe
            rw [hh (by omega), emp_len, List.length_take, List.length_drop, decide_eq_false_iff_not] at hbe
            omega)
      go_wp2_with fail
      go_ret
      subst hx
      exact retRow_of (strs_length _) hown hbw
end Go.Proofs.YtjnmgmepolpcdaaDoor
