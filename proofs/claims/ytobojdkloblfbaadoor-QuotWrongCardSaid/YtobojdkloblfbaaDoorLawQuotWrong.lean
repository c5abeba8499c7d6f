/- QuotWrong: what is wrong within quotes. -/
import Derived.Test.YtobojdkloblfbaaDoorLawQuot0
namespace Go.Proofs.YtobojdkloblfbaaDoor
open Go.RowKit U Go.Proofs

theorem wrongQ_succ (k : Nat) (s : Bool) : wrongQ (k + 1) s = wrongQ k s ++ [10, 32, 32, 32, 119] := by
  unfold wrongQ
  rw [List.replicate_succ']
  simp
theorem wrongQ_len (k : Nat) (s : Bool) : (wrongQ k s).length = 2 + 5 * k := by
  induction k with
  | zero => cases s <;> rfl
  | succ k ih => rw [wrongQ_succ, List.length_append, ih]; simp; omega
set_option maxRecDepth 100000 in
set_option maxHeartbeats 8000000 in
theorem quotWrong_c (which n : Int) (single : Bool) (w : World) (_hE : Env w) (_a1 : -9223372036854775808 ≤ which) (_a2 : which ≤ 9223372036854775807) (_b1 : -9223372036854775808 ≤ n) (_b2 : n ≤ 9223372036854775807) :
    Calls Tryd.prog 8 #[.int .i64 which, .int .i64 n, .bool single] w fun e w' => e = .returned (.bool true) ∧ Below w.heap.size w w' := by
  have hk4 := low_lt n 4 (by omega)
  have hc5 := low_lt which 5 (by omega)
  have hLn := fun w => low_c n 4 w (by omega) (by omega)
  have hLw := fun w => low_c which 5 w (by omega) (by omega)
  have hW := fun (h : low which 5 = 4 → single = false) => wrong_all hc5 hk4 h
  have hA := awake12_c
  generalize low n 4 = k at *
  generalize low which 5 = c at *
  have hlen := wrongQ_len k single
  have key : ∀ (t : List UInt8) (col p : Int) (w : World), quotM t 0 col = ([], p, false, 5) → t.length ≤ 1000 → -9 ≤ col → col ≤ 9 →
      Calls Tryd.prog 33 #[.string ⟨t.toArray⟩, .int .i64 0, .int .i64 col] w fun x w' => x = .returned (.tuple #[.string ⟨#[]⟩, .int .i64 p, .bool false, .int .i64 5]) ∧ Below w.heap.size w w' :=
    fun t col p w h hl h1 h2 => quotIs_c h w (by omega) (by omega) (by omega) (by omega) (by omega)
  have HW := Lib.hid hW
  clear hW
  cases single with
  | false =>
    go_enter Tryd.func8, Tryd.ntmps8
    go_wp2_with fail
    go_loop [8, 9] (fun s i => ∃ j : Nat, j ≤ k ∧ s = .string ⟨(wrongQ j false).toArray⟩ ∧ i = .int .i64 j) (fun _ i => k - (intOf i).toNat)
    case atStart => exact ⟨0, Nat.zero_le _, rfl, rfl⟩
    case round =>
      obtain ⟨j, hj, rfl, rfl⟩ := hrel
      have HL := Lib.hid (wrongQ_len j false)
      have hjl : (wrongQ j false).length ≤ 30 := by rw [HL.out]; omega
      by_cases hlt : j < k
      · have HT := Lib.hid (wrongQ_succ j false)
        generalize wrongQ j false = t at *
        go_wp2_with fail
        refine (hLn _).mono ?_
        rintro e w1 ⟨rfl, rfl⟩
        go_wp2_with fail
        go_round
        case rel => exact ⟨j + 1, by omega, by rw [HT.out], by go_num⟩
        case measure => simp [intOf]; omega
      · obtain rfl : j = k := by omega
        generalize hwq : wrongQ j false = t at *
        have HWQ := Lib.hid hwq
        clear hwq
        go_wp2_with fail
        refine (hLn _).mono ?_
        rintro e w1 ⟨rfl, rfl⟩
        go_wp2_with fail
        refine (hLw _).mono ?_
        rintro e w1 ⟨rfl, rfl⟩
        have h5 : c = 0 ∨ c = 1 ∨ c = 2 ∨ c = 3 ∨ c = 4 := by omega
        rcases h5 with rfl | rfl | rfl | rfl | rfl
        · have hq : quotM (t ++ [10, 32, 32, 119, 34]) 0 2 = ([], (t.length : Int) + 1 + 2, false, 5) := by
            have := HW.out (fun h => by cases h)
            unfold wrongTx at this
            simp only [HWQ.out] at this
            refine Eq.trans (congrArg (fun x => quotM x 0 2) (by simp)) (this.trans (Prod.ext rfl (Prod.ext ?_ rfl)))
            first
              | (simp only; done)
              | (simp only; omega)
          have hRd := fun w => key _ _ _ w hq (by simp; omega) (by omega) (by omega)
          go_wp2_with fail
          refine (hRd _).mono ?_
          rintro e w2 ⟨rfl, hb2⟩
          go_wp2_with fail
          refine (hA _).mono ?_
          rintro e w3 ⟨rfl, hb3⟩
          go_wp2_with fail
          go_ret
          exact ⟨rfl, hb2.trans (hb3.mono hb2.size)⟩
        · have hq : quotM (t ++ [10, 45, 45, 45, 32, 119, 34]) 0 (-1) = ([], (t.length : Int) + 1, false, 5) := by
            have := HW.out (fun h => by cases h)
            unfold wrongTx at this
            simp only [HWQ.out] at this
            refine Eq.trans (congrArg (fun x => quotM x 0 (-1)) (by simp)) (this.trans (Prod.ext rfl (Prod.ext ?_ rfl)))
            first
              | (simp only; done)
              | (simp only; omega)
          have hRd := fun w => key _ _ _ w hq (by simp; omega) (by omega) (by omega)
          go_wp2_with fail
          refine (hRd _).mono ?_
          rintro e w2 ⟨rfl, hb2⟩
          go_wp2_with fail
          refine (hA _).mono ?_
          rintro e w3 ⟨rfl, hb3⟩
          go_wp2_with fail
          go_ret
          exact ⟨rfl, hb2.trans (hb3.mono hb2.size)⟩
        · have hq : quotM (t ++ [10, 46, 46, 46, 34, 34]) 0 0 = ([], (t.length : Int) + 1, false, 5) := by
            have := HW.out (fun h => by cases h)
            unfold wrongTx at this
            simp only [HWQ.out] at this
            refine Eq.trans (congrArg (fun x => quotM x 0 0) (by simp)) (this.trans (Prod.ext rfl (Prod.ext ?_ rfl)))
            first
              | (simp only; done)
              | (simp only; omega)
          have hRd := fun w => key _ _ _ w hq (by simp; omega) (by omega) (by omega)
          go_wp2_with fail
          refine (hRd _).mono ?_
          rintro e w2 ⟨rfl, hb2⟩
          go_wp2_with fail
          refine (hA _).mono ?_
          rintro e w3 ⟨rfl, hb3⟩
          go_wp2_with fail
          go_ret
          exact ⟨rfl, hb2.trans (hb3.mono hb2.size)⟩
        · have hq : quotM (t ++ [10, 32, 32, 32, 119]) 0 2 = ([], (t.length : Int) + 5, false, 5) := by
            have := HW.out (fun h => by cases h)
            unfold wrongTx at this
            simp only [HWQ.out] at this
            refine Eq.trans (congrArg (fun x => quotM x 0 2) (by simp)) (this.trans (Prod.ext rfl (Prod.ext ?_ rfl)))
            first
              | (simp only; done)
              | (simp only; omega)
          have hRd := fun w => key _ _ _ w hq (by simp; omega) (by omega) (by omega)
          go_wp2_with fail
          refine (hRd _).mono ?_
          rintro e w2 ⟨rfl, hb2⟩
          go_wp2_with fail
          refine (hA _).mono ?_
          rintro e w3 ⟨rfl, hb3⟩
          go_wp2_with fail
          go_ret
          exact ⟨rfl, hb2.trans (hb3.mono hb2.size)⟩
        · have hq : quotM (t ++ [92, 113, 34]) 0 2 = ([], (t.length : Int), false, 5) := by
            have := HW.out (by intros; first | rfl | trivial)
            unfold wrongTx at this
            simp only [HWQ.out] at this
            refine Eq.trans (congrArg (fun x => quotM x 0 2) (by simp)) (this.trans (Prod.ext rfl (Prod.ext ?_ rfl)))
            first
              | (simp only; done)
              | (simp only; omega)
          have hRd := fun w => key _ _ _ w hq (by simp; omega) (by omega) (by omega)
          go_wp2_with fail
          refine (hRd _).mono ?_
          rintro e w2 ⟨rfl, hb2⟩
          go_wp2_with fail
          refine (hA _).mono ?_
          rintro e w3 ⟨rfl, hb3⟩
          go_wp2_with fail
          go_ret
          exact ⟨rfl, hb2.trans (hb3.mono hb2.size)⟩
  | true =>
    go_enter Tryd.func8, Tryd.ntmps8
    go_wp2_with fail
    go_loop [8, 9] (fun s i => ∃ j : Nat, j ≤ k ∧ s = .string ⟨(wrongQ j true).toArray⟩ ∧ i = .int .i64 j) (fun _ i => k - (intOf i).toNat)
    case atStart => exact ⟨0, Nat.zero_le _, rfl, rfl⟩
    case round =>
      obtain ⟨j, hj, rfl, rfl⟩ := hrel
      have HL := Lib.hid (wrongQ_len j true)
      have hjl : (wrongQ j true).length ≤ 30 := by rw [HL.out]; omega
      by_cases hlt : j < k
      · have HT := Lib.hid (wrongQ_succ j true)
        generalize wrongQ j true = t at *
        go_wp2_with fail
        refine (hLn _).mono ?_
        rintro e w1 ⟨rfl, rfl⟩
        go_wp2_with fail
        go_round
        case rel => exact ⟨j + 1, by omega, by rw [HT.out], by go_num⟩
        case measure => simp [intOf]; omega
      · obtain rfl : j = k := by omega
        generalize hwq : wrongQ j true = t at *
        have HWQ := Lib.hid hwq
        clear hwq
        go_wp2_with fail
        refine (hLn _).mono ?_
        rintro e w1 ⟨rfl, rfl⟩
        go_wp2_with fail
        refine (hLw _).mono ?_
        rintro e w1 ⟨rfl, rfl⟩
        have h5 : c = 0 ∨ c = 1 ∨ c = 2 ∨ c = 3 ∨ c = 4 := by omega
        rcases h5 with rfl | rfl | rfl | rfl | rfl
        · have hq : quotM (t ++ [10, 32, 32, 119, 39]) 0 2 = ([], (t.length : Int) + 1 + 2, false, 5) := by
            have := HW.out (fun h => by cases h)
            unfold wrongTx at this
            simp only [HWQ.out] at this
            refine Eq.trans (congrArg (fun x => quotM x 0 2) (by simp)) (this.trans (Prod.ext rfl (Prod.ext ?_ rfl)))
            first
              | (simp only; done)
              | (simp only; omega)
          have hRd := fun w => key _ _ _ w hq (by simp; omega) (by omega) (by omega)
          go_wp2_with fail
          refine (hRd _).mono ?_
          rintro e w2 ⟨rfl, hb2⟩
          go_wp2_with fail
          refine (hA _).mono ?_
          rintro e w3 ⟨rfl, hb3⟩
          go_wp2_with fail
          go_ret
          exact ⟨rfl, hb2.trans (hb3.mono hb2.size)⟩
        · have hq : quotM (t ++ [10, 45, 45, 45, 32, 119, 39]) 0 (-1) = ([], (t.length : Int) + 1, false, 5) := by
            have := HW.out (fun h => by cases h)
            unfold wrongTx at this
            simp only [HWQ.out] at this
            refine Eq.trans (congrArg (fun x => quotM x 0 (-1)) (by simp)) (this.trans (Prod.ext rfl (Prod.ext ?_ rfl)))
            first
              | (simp only; done)
              | (simp only; omega)
          have hRd := fun w => key _ _ _ w hq (by simp; omega) (by omega) (by omega)
          go_wp2_with fail
          refine (hRd _).mono ?_
          rintro e w2 ⟨rfl, hb2⟩
          go_wp2_with fail
          refine (hA _).mono ?_
          rintro e w3 ⟨rfl, hb3⟩
          go_wp2_with fail
          go_ret
          exact ⟨rfl, hb2.trans (hb3.mono hb2.size)⟩
        · have hq : quotM (t ++ [10, 46, 46, 46, 39, 39]) 0 0 = ([], (t.length : Int) + 1, false, 5) := by
            have := HW.out (fun h => by cases h)
            unfold wrongTx at this
            simp only [HWQ.out] at this
            refine Eq.trans (congrArg (fun x => quotM x 0 0) (by simp)) (this.trans (Prod.ext rfl (Prod.ext ?_ rfl)))
            first
              | (simp only; done)
              | (simp only; omega)
          have hRd := fun w => key _ _ _ w hq (by simp; omega) (by omega) (by omega)
          go_wp2_with fail
          refine (hRd _).mono ?_
          rintro e w2 ⟨rfl, hb2⟩
          go_wp2_with fail
          refine (hA _).mono ?_
          rintro e w3 ⟨rfl, hb3⟩
          go_wp2_with fail
          go_ret
          exact ⟨rfl, hb2.trans (hb3.mono hb2.size)⟩
        · have hq : quotM (t ++ [10, 32, 32, 32, 119]) 0 2 = ([], (t.length : Int) + 5, false, 5) := by
            have := HW.out (fun h => by cases h)
            unfold wrongTx at this
            simp only [HWQ.out] at this
            refine Eq.trans (congrArg (fun x => quotM x 0 2) (by simp)) (this.trans (Prod.ext rfl (Prod.ext ?_ rfl)))
            first
              | (simp only; done)
              | (simp only; omega)
          have hRd := fun w => key _ _ _ w hq (by simp; omega) (by omega) (by omega)
          go_wp2_with fail
          refine (hRd _).mono ?_
          rintro e w2 ⟨rfl, hb2⟩
          go_wp2_with fail
          refine (hA _).mono ?_
          rintro e w3 ⟨rfl, hb3⟩
          go_wp2_with fail
          go_ret
          exact ⟨rfl, hb2.trans (hb3.mono hb2.size)⟩
        · go_wp2_with fail
          refine (hA _).mono ?_
          rintro e w2 ⟨rfl, hb2⟩
          go_wp2_with fail
          go_ret
          exact ⟨rfl, hb2⟩
end Go.Proofs.YtobojdkloblfbaaDoor
