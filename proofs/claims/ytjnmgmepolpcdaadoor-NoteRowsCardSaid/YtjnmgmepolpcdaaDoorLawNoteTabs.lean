/- The walk of bosketlaw15.NoteTabs. -/
import Derived.Test.YtjnmgmepolpcdaaDoorLawNoteMade
namespace Go.Proofs.YtjnmgmepolpcdaaDoor
open Go.RowKit U Go.Proofs

set_option maxRecDepth 100000 in
set_option maxHeartbeats 1000000 in
theorem blanks_c (n : Nat) (w : World) (hn : n ≤ 1000000) : Calls Tryd.prog 26 #[.int .i64 n] w fun e w' => e = .returned (.string ⟨(List.replicate n 32).toArray⟩) ∧ w = w' := by
  go_enter Tryd.func26, Tryd.ntmps26
  go_wp2_with fail
  go_loop [3, 4] (fun s i => ∃ (k : Nat) (t : List UInt8), k ≤ n ∧ s = .string ⟨t.toArray⟩ ∧ t.length = k ∧ Hid (t = List.replicate k 32) ∧ i = .int .i64 k) (fun _ i => n - (intOf i).toNat)
  case atStart => exact ⟨0, [], Nat.zero_le _, rfl, rfl, Lib.hid rfl, rfl⟩
  case round =>
    obtain ⟨k, t, hk, rfl, htk, HT, rfl⟩ := hrel
    by_cases hlt : k < n
    · go_wp2_with fail
      go_round
      case rel => exact ⟨k + 1, t ++ [32], by omega, rfl, by simp; omega, Lib.hid (by rw [HT.out, List.replicate_succ']), by go_num⟩
      case measure => simp [intOf]; omega
    · obtain rfl : k = n := by omega
      go_wp2_with fail
      go_ret
      exact ⟨ret_str (by rw [HT.out]), rfl⟩
set_option maxRecDepth 100000 in
set_option maxHeartbeats 1000000 in
theorem feeds_c (n : Nat) (w : World) (hn : n ≤ 1000000) : Calls Tryd.prog 25 #[.int .i64 n] w fun e w' => e = .returned (.string ⟨(List.replicate n 10).toArray⟩) ∧ w = w' := by
  go_enter Tryd.func25, Tryd.ntmps25
  go_wp2_with fail
  go_loop [3, 4] (fun s i => ∃ (k : Nat) (t : List UInt8), k ≤ n ∧ s = .string ⟨t.toArray⟩ ∧ t.length = k ∧ Hid (t = List.replicate k 10) ∧ i = .int .i64 k) (fun _ i => n - (intOf i).toNat)
  case atStart => exact ⟨0, [], Nat.zero_le _, rfl, rfl, Lib.hid rfl, rfl⟩
  case round =>
    obtain ⟨k, t, hk, rfl, htk, HT, rfl⟩ := hrel
    by_cases hlt : k < n
    · go_wp2_with fail
      go_round
      case rel => exact ⟨k + 1, t ++ [10], by omega, rfl, by simp; omega, Lib.hid (by rw [HT.out, List.replicate_succ']), by go_num⟩
      case measure => simp [intOf]; omega
    · obtain rfl : k = n := by omega
      go_wp2_with fail
      go_ret
      exact ⟨ret_str (by rw [HT.out]), rfl⟩
/-- The law's texts. -/
def tabTx (b n k : Nat) : List UInt8 := [119] ++ List.replicate (n + 1) 10 ++ List.replicate b 32 ++ [9] ++ (if k = 0 then [120] else if k = 1 then [35, 32, 99] else [])
theorem tabs_all : ∀ b < 4, ∀ n < 3, (skipM (tabTx b n 0) 1).1 = [] ∧ (skipM (tabTx b n 0) 1).2.2 = (((n + 2 + b : Nat) : Int), 4) ∧
    (withinM (tabTx b n 0) 1 ((b : Int) - 1)).1 = [] ∧ (withinM (tabTx b n 0) 1 ((b : Int) - 1)).2.2 = (((n + 3 + b : Nat) : Int), 0) ∧ (withinM (tabTx b n 0) 1 (b : Int)).2.2 = (((n + 3 + b : Nat) : Int), 5) := by decide +kernel
theorem tabs_none1 : ∀ b < 4, ∀ n < 3, ∀ k < 2, (skipM (tabTx b n (k + 1)) 1).1.length = 1 - k ∧ (skipM (tabTx b n (k + 1)) 1).2.2 = (((tabTx b n (k + 1)).length : Int), 0) ∧ inM (tabTx b n (k + 1)) (tabTx b n (k + 1)).length = b := by decide +kernel
theorem tabs_none2 : ∀ b < 4, ∀ n < 3, ∀ k < 2, (withinM (tabTx b n (k + 1)) 1 ((b : Int) - 1)).1.length = 1 - k ∧ (withinM (tabTx b n (k + 1)) 1 ((b : Int) - 1)).2.2 = (((tabTx b n (k + 1)).length : Int), 0) ∧ (withinM (tabTx b n (k + 1)) 1 (b : Int)).2.2 = (((tabTx b n (k + 1)).length : Int), 0) := by decide +kernel
theorem tabs_len (b n k : Nat) : (tabTx b n k).length = n + 2 + b + 1 + (if k = 0 then 1 else if k = 1 then 3 else 0) := by
  unfold tabTx
  split
  · simp; omega
  · split <;> simp <;> omega
set_option maxRecDepth 100000 in
set_option maxHeartbeats 8000000 in
theorem noteTabs_c (bl wh n0 : Int) (w : World) (hE : Env w) (_b1 : -9223372036854775808 ≤ bl) (_b2 : bl ≤ 9223372036854775807) (_w1 : -9223372036854775808 ≤ wh) (_w2 : wh ≤ 9223372036854775807) (_n1 : -9223372036854775808 ≤ n0) (_n2 : n0 ≤ 9223372036854775807) :
    Calls Tryd.prog 10 #[.int .i64 bl, .int .i64 wh, .int .i64 n0] w fun e w' => e = .returned (.bool true) ∧ Below w.heap.size w w' := by
  have hA := At.refl hE
  have hLb := fun w => lit_low bl 4 (low bl 4) w (by omega) (by omega) rfl
  have hLk := fun w => lit_low wh 3 (low wh 3) w (by omega) (by omega) rfl
  have hLn := fun w => lit_low n0 3 (low n0 3) w (by omega) (by omega) rfl
  have hb := low_lt bl 4 (by omega)
  have hk := low_lt wh 3 (by omega)
  have hn := low_lt n0 3 (by omega)
  generalize low bl 4 = b at *
  generalize low wh 3 = k at *
  generalize low n0 3 = n at *
  have hB := fun w => blanks_c b w (by omega)
  go_enter Tryd.func10, Tryd.ntmps10
  go_wp2_with fail
  refine (hLb _).mono ?_
  rintro e w1 ⟨rfl, hw1⟩
  obtain rfl := hw1.symm
  go_wp2_with fail
  go_loopw [8, 9] (fun s i wr => ∃ (j : Nat) (t : List UInt8), j ≤ n + 1 ∧ s = .string ⟨t.toArray⟩ ∧ t.length = j + 1 ∧ i = .int .i64 j ∧ Hid (t = [119] ++ List.replicate j 10) ∧ At w wr) (fun _ i _ => n + 1 - (intOf i).toNat)
  case atStart => exact ⟨0, [119], Nat.zero_le _, rfl, rfl, rfl, Lib.hid rfl, hA⟩
  case round =>
    obtain ⟨j, t, hj, rfl, htj, rfl, HT, hA⟩ := hrel
    by_cases hlt : j ≤ n
    · go_wp2_with fail
      refine (hLn _).mono ?_
      rintro e w2 ⟨rfl, hw2⟩
      obtain rfl := hw2.symm
      go_wp2_with fail
      go_roundw
      case rel => exact ⟨j + 1, t ++ [10], by omega, rfl, by simp; omega, by go_num, Lib.hid (by rw [HT.out, List.replicate_succ', ← List.append_assoc]), hA⟩
      case measure => simp [intOf]; omega
    · obtain rfl : j = n + 1 := by omega
      go_wp2_with fail
      refine (hLn _).mono ?_
      rintro e w2 ⟨rfl, hw2⟩
      obtain rfl := hw2.symm
      go_wp2_with fail
      refine (hLk _).mono ?_
      rintro e w3 ⟨rfl, hw3⟩
      obtain rfl := hw3.symm
      go_upto_region 9 with fail
      go_cut [8] (fun s wx => s = .string ⟨(tabTx b n k).toArray⟩ ∧ Below w.heap.size w wx)
      case first =>
        rcases (show k = 0 ∨ k = 1 ∨ k = 2 by omega) with rfl | rfl | rfl
        all_goals
          have hbl : (List.replicate b (32 : UInt8)).length ≤ 4 := by simp; omega
          have HTX : Hid (t = [119] ++ List.replicate (n + 1) 10) := HT
          have HBL : Hid (List.replicate b (32 : UInt8) = List.replicate b 32) := Lib.hid rfl
          generalize hrb : List.replicate b (32 : UInt8) = rb at *
          have HRB := Lib.hid hrb
          clear hrb HBL
          have hs1 := fun (w : World) => run_string_add_sum (P := Tryd.prog) (w := w) ⟨t.toArray⟩ ⟨rb.toArray⟩ (by show t.length + rb.length ≤ _; omega)
          have hs2 := fun (w : World) => run_string_add_sum (P := Tryd.prog) (w := w) ⟨(t ++ rb).toArray⟩ ⟨#[9]⟩ (by show (t ++ rb).length + 1 ≤ _; rw [List.length_append]; omega)
          have hs3 := fun (w : World) (z : UInt8) => run_string_add_sum (P := Tryd.prog) (w := w) ⟨(t ++ (rb ++ [9])).toArray⟩ ⟨#[z]⟩ (by show (t ++ (rb ++ [9])).length + 1 ≤ _; rw [List.length_append, List.length_append]; simp; omega)
          go_region_with ((go_at_call 26; (with_reducible refine (hB _).mono ?_); rintro e w5 ⟨rfl, rfl⟩))
          all_goals
            go_wp2_with fail
            go_meet
            refine ⟨?_, ?_⟩
            · unfold tabTx
              rw [← HTX.out, HRB.out]
              simp
            · have hB2 := hA.below
              first
                | exact hB2.drew
                | exact ((hB2.alloc hB2.size _)).drew
                | exact hB2
                | exact hB2.alloc hB2.size _
      case rest =>
        obtain ⟨rfl, hbel⟩ := hcut
        have hL1 := tabs_len b n k
        have hLs : (tabTx b n k).length ≤ 100 := by rw [hL1]; split <;> (try split) <;> omega
        have hh : heldM (tabTx b n k) 1 = 1 := heldM_nat (p := 1) (by omega)
        have h1 := fun w => skip_c (tabTx b n k) 1 w (by omega)
        have h2 := fun w => within_c (tabTx b n k) 1 ((b : Int) - 1) w (by omega)
        have h3 := fun w => within_c (tabTx b n k) 1 (b : Int) w (by omega)
        rw [hh] at h1 h2 h3
        rcases (show k = 0 ∨ ∃ m, k = m + 1 ∧ m < 2 by rcases k with _ | m; exact .inl rfl; exact .inr ⟨m, rfl, by omega⟩) with rfl | ⟨m, rfl, hm⟩
        · obtain ⟨f1, f2, f3, f4, f5⟩ := tabs_all b hb n hn
          generalize skipM (tabTx b n 0) 1 = R at *
          generalize withinM (tabTx b n 0) 1 ((b : Int) - 1) = S at *
          generalize withinM (tabTx b n 0) 1 (b : Int) = T at *
          obtain ⟨xs, c, p⟩ := R
          obtain ⟨ys, d, q⟩ := S
          obtain ⟨zs, e, r⟩ := T
          simp only at f1 f2 f3 f4 f5
          subst f1 f2 f3 f4 f5
          have e1 : ((n + 2 + b : Nat) : Int) = (n : Int) + 1 + 1 + (b : Int) := by omega
          have e2 : ((n + 3 + b : Nat) : Int) = (n : Int) + 1 + 1 + (b : Int) + 1 := by omega
          rw [e1] at h1
          rw [e2] at h2 h3
          generalize tabTx b n 0 = l at *
          clear hL1 hh e1 e2 hj hlt hLb hLn hLk hB HT htj
          go_wp2_with fail
          refine (h1 _).mono ?_
          rintro e w1 ⟨v1, rfl, hown1, hb1⟩
          obtain ⟨a1, c1, rfl⟩ := own_shape hown1
          have hbel := hbel.trans (hb1.mono hbel.size)
          clear hown1 hb1
          go_wp2_with fail
          refine (h2 _).mono ?_
          rintro e w2 ⟨v2, rfl, hown2, hb2⟩
          obtain ⟨a2, c2, rfl⟩ := own_shape hown2
          have hbel := hbel.trans (hb2.mono hbel.size)
          clear hown2 hb2
          go_wp2_with fail
          refine (h3 _).mono ?_
          rintro e w3 ⟨v3, rfl, hown3, hb3⟩
          obtain ⟨a3, c3, rfl⟩ := own_shape hown3
          have hbel := hbel.trans (hb3.mono hbel.size)
          clear hown3 hb3
          go_wp2_with fail
          refine (awake15_c _ (hE.below hbel)).mono ?_
          rintro e w4 ⟨rfl, hb4⟩
          have hbel := hbel.trans (hb4.mono hbel.size)
          go_wp2_with fail
          go_ret
          exact ⟨rfl, hbel⟩
        · obtain ⟨f1, f2, f3⟩ := tabs_none1 b hb n hn m hm
          obtain ⟨f4, f5, f6⟩ := tabs_none2 b hb n hn m hm
          have hI := fun w => in_n (tabTx b n (m + 1)) (tabTx b n (m + 1)).length w (by omega) (Nat.le_refl _)
          rw [f3] at hI
          generalize skipM (tabTx b n (m + 1)) 1 = R at *
          generalize withinM (tabTx b n (m + 1)) 1 ((b : Int) - 1) = S at *
          generalize withinM (tabTx b n (m + 1)) 1 (b : Int) = T at *
          obtain ⟨xs, c, p⟩ := R
          obtain ⟨ys, d, q⟩ := S
          obtain ⟨zs, e, r⟩ := T
          simp only at f1 f2 f4 f5 f6
          subst f2 f5 f6
          generalize tabTx b n (m + 1) = l at *
          have g0 : (((m + 1 : Nat) : Int) == 0) = false := by rw [beq_eq_false_iff_ne]; omega
          have gx : ((xs.length : Int) == 2 - ((m + 1 : Nat) : Int)) = true := by simp; omega
          have gy : ((ys.length : Int) == 2 - ((m + 1 : Nat) : Int)) = true := by simp; omega
          have gw : IntKind.i64.wrap (2 - ((m + 1 : Nat) : Int)) = 2 - ((m + 1 : Nat) : Int) := IntWalk.i64_in _ (by omega)
          clear hL1 hh hj hlt hLb hLn hLk hB HT htj
          go_wp2_with fail
          refine (h1 _).mono ?_
          rintro e w1 ⟨v1, rfl, hown1, hb1⟩
          obtain ⟨a1, c1, rfl⟩ := own_shape hown1
          have hbel := hbel.trans (hb1.mono hbel.size)
          clear hown1 hb1
          go_wp2_with fail
          refine (h2 _).mono ?_
          rintro e w2 ⟨v2, rfl, hown2, hb2⟩
          obtain ⟨a2, c2, rfl⟩ := own_shape hown2
          have hbel := hbel.trans (hb2.mono hbel.size)
          clear hown2 hb2
          go_wp2_with fail
          refine (h3 _).mono ?_
          rintro e w3 ⟨v3, rfl, hown3, hb3⟩
          obtain ⟨a3, c3, rfl⟩ := own_shape hown3
          have hbel := hbel.trans (hb3.mono hbel.size)
          clear hown3 hb3
          go_wp2_with fail
          refine (hI _).mono ?_
          rintro e w4 ⟨rfl, rfl⟩
          go_wp2_with fail
          refine (awake15_c _ (hE.below hbel)).mono ?_
          rintro e w5 ⟨rfl, hb4⟩
          have hbel := hbel.trans (hb4.mono hbel.size)
          go_wp2_with fail
          go_ret
          exact ⟨rfl, hbel⟩
end Go.Proofs.YtjnmgmepolpcdaaDoor
