/- What the statements on block scalars share. -/
import Derived.Test.YtobojdkloblfbaaDoorWBlocRead
import Derived.Test.YtobojdkloblfbaaDoorWLow
namespace Go.Proofs.YtobojdkloblfbaaDoor
open Go.RowKit U Go.Proofs

theorem blread_c (l : List UInt8) (a n : Int) (w : World) (hs : l.length ≤ 900000) (hn1 : -9223372036854775808 ≤ n) (hn2 : n ≤ 9223372036854775807) :
    Calls Tryd.prog 36 #[.string ⟨l.toArray⟩, .int .i64 a, .int .i64 n] w (BlRet w (blocM l a n).1 (blocM l a n).2.1 (blocM l a n).2.2) := by
  cases h : startB l a with
  | false =>
    have e : blocM l a n = (.zero, a, 5) := by unfold blocM; rw [if_neg (by rw [h]; decide)]
    rw [e]
    exact blread_no l a n w (by omega) h
  | true =>
    obtain ⟨h1, h2, h3⟩ := of_decide_eq_true h
    have e : blocM l a n = blocOf l a.toNat n := by unfold blocM; rw [if_pos h]
    rw [e]
    obtain ⟨p, rfl⟩ : ∃ p : Nat, a = p := ⟨a.toNat, by omega⟩
    rw [Int.toNat_natCast] at h3 ⊢
    exact blread_yes l p n w hs (by omega) h3 hn1 hn2
set_option maxRecDepth 100000 in
set_option maxHeartbeats 1000000 in
theorem blan_c (n : Nat) (w : World) (hn : n ≤ 1000000) : Calls Tryd.prog 31 #[.int .i64 n] w fun e w' => e = .returned (.string ⟨(List.replicate n 32).toArray⟩) ∧ w = w' := by
  go_enter Tryd.func31, Tryd.ntmps31
  go_wp2_with fail
  go_loop [3, 4] (fun s i => ∃ (k : Nat) (t : List UInt8), k ≤ n ∧ s = .string ⟨t.toArray⟩ ∧ t.length = k ∧ Hid (t = List.replicate k 32) ∧ i = .int .i64 k) (fun _ i => n - (intOf i).toNat)
  case atStart => exact ⟨0, [], Nat.zero_le _, rfl, rfl, Lib.hid rfl, rfl⟩
  case round =>
    obtain ⟨k, t, hk, rfl, htk, HT, rfl⟩ := hrel
    by_cases hlt : k < n
    · go_wp2_with fail
      go_round
      case rel => exact ⟨k + 1, t ++ [32], by omega, rfl, by simp; omega, Lib.hid (by rw [HT.out, List.replicate_succ']), by go_num⟩
      case measure => simp [intOf]; omega
    · obtain rfl : k = n := by omega
      go_wp2_with fail
      go_ret
      exact ⟨ret_str (by rw [HT.out]), rfl⟩
theorem awake13_1 : (blocM [124, 10, 32, 97, 10, 10] 0 (-1)).1.style = 4 ∧ (blocM [124, 10, 32, 97, 10, 10] 0 (-1)).1.text = [97, 10] ∧ (blocM [124, 10, 32, 97, 10, 10] 0 (-1)).2 = (6, 0) := by decide +kernel
theorem awake13_2 : (blocM [124, 48] 0 (-1)).2 = (1, 5) := by decide +kernel
/-- A node in a block of its own. -/
theorem node_new (w : World) (x : BN) : Full (w.alloc (.cells (bnCells x).toArray 52)) w.heap.size 52 (bnCells x) := Full.new _ _ _
set_option maxRecDepth 100000 in
set_option maxHeartbeats 4000000 in
theorem awake13_c (w : World) :
    Calls Tryd.prog 34 #[] w fun e w' => e = .returned (.bool true) ∧ Below w.heap.size w w' := by
  have h1 := fun w => blread_c [124, 10, 32, 97, 10, 10] 0 (-1) w (by decide) (by omega) (by omega)
  have h2 := fun w => blread_c [124, 48] 0 (-1) w (by decide) (by omega) (by omega)
  obtain ⟨a1, a2, a3⟩ := awake13_1
  have b3 := awake13_2
  obtain ⟨X, hX⟩ : ∃ X, blocM [124, 10, 32, 97, 10, 10] 0 (-1) = X := ⟨_, rfl⟩
  obtain ⟨Y, hY⟩ : ∃ Y, blocM [124, 48] 0 (-1) = Y := ⟨_, rfl⟩
  rw [hX] at h1 a1 a2 a3
  rw [hY] at h2 b3
  obtain ⟨x, xp⟩ := X
  obtain ⟨y, yp⟩ := Y
  simp only [] at a1 a2 a3 b3 h1 h2
  subst a3 b3
  have HA := Lib.hid (And.intro a1 a2)
  clear hX hY a1 a2
  go_enter Tryd.func34, Tryd.ntmps34
  go_wp2_with fail
  refine (h1 _).mono ?_
  rintro e w1 ⟨rfl, hb1⟩
  have hN := node_new w1 x
  have hB1 := hb1.alloc (o := .cells (bnCells x).toArray 52) hb1.size
  go_upto_region 2 with fail
  generalize w1.alloc (.cells (bnCells x).toArray 52) = w2 at *
  go_wp2_with fail
  refine (h2 _).mono ?_
  rintro e w3 ⟨rfl, hb3⟩
  have hN3 := (hN.below hb3 hN.lt).alloc (.cells (bnCells y).toArray 52)
  have hB3 := (hB1.trans (hb3.mono hB1.size)).alloc (o := .cells (bnCells y).toArray 52) (Nat.le_trans hB1.size hb3.size)
  go_upto_region 3 with fail
  generalize w3.alloc (.cells (bnCells y).toArray 52) = w4 at *
  have y1 := hN3.cell 1
  have y6 := hN3.cell 6
  simp only [List.getElem?_cons_zero, List.getElem?_cons_succ] at y1 y6
  rw [HA.out.1] at y1
  rw [HA.out.2] at y6
  clear h1 h2 hN hN3 hb1 hb3 hB1
  go_wp2_with fail
  go_ret
  exact ⟨rfl, hB3⟩
end Go.Proofs.YtobojdkloblfbaaDoor
