/- The walks of the document's folding of a block scalar's rows. -/
import Derived.Test.YtobojdkloblfbaaDoorWFold
import Derived.Test.YtobojdkloblfbaaDoorWRefSign
namespace Go.Proofs.YtobojdkloblfbaaDoor
open Go.RowKit U Go.Proofs

set_option maxRecDepth 100000 in
set_option maxHeartbeats 1000000 in
theorem rfeeds_c (n : Nat) (w : World) (hn : n ≤ 1000001) : Calls Tryd.prog 88 #[.int .i64 n] w fun e w' => e = .returned (.string ⟨(List.replicate n 10).toArray⟩) ∧ w = w' := by
  go_enter Tryd.func88, Tryd.ntmps88
  go_wp2_with fail
  go_loop [3, 4] (fun s i => ∃ (k : Nat) (t : List UInt8), k ≤ n ∧ s = .string ⟨t.toArray⟩ ∧ t.length = k ∧ Hid (t = List.replicate k 10) ∧ i = .int .i64 k) (fun _ i => n - (intOf i).toNat)
  case atStart => exact ⟨0, [], Nat.zero_le _, rfl, rfl, Lib.hid rfl, rfl⟩
  case round =>
    obtain ⟨k, t, hk, rfl, htk, HT, rfl⟩ := hrel
    by_cases hlt : k < n
    · go_wp2_with fail
      go_round
      case rel => exact ⟨k + 1, t ++ [10], by omega, rfl, by simp; omega, Lib.hid (by rw [HT.out, List.replicate_succ']), by go_num⟩
      case measure => simp [intOf]; omega
    · obtain rfl : k = n := by omega
      go_wp2_with fail
      go_ret
      exact ⟨ret_str (by rw [HT.out]), rfl⟩
/-- Which row was the last one that is not empty. -/
def LastIs (xs : List (List UInt8)) (li : Int) (last : List UInt8) : Prop := (li = -1 ∧ last = []) ∨ ∃ j : Nat, li = j ∧ ∃ h : j < xs.length, xs[j]'h = last ∧ last ≠ []
set_option maxRecDepth 100000 in
set_option maxHeartbeats 4000000 in
theorem rfold_no (v : Value) (xs : List (List UInt8)) (w : World) (h : Slc w v xs) (hs : sumL xs ≤ 1000000) :
    Calls Tryd.prog 87 #[v, .bool false] w fun e w' => e = .returned (.string ⟨(blockM xs false).toArray⟩) ∧ w = w' := by
  have hB : blockM xs false = joinB xs := rfl
  rw [hB]
  have hJl : ∀ k, (joinB (xs.take k)).length ≤ 1000000 := fun k => Nat.le_trans (joinB_len _) (Nat.le_trans (sumL_take xs k) hs)
  have hxl : ∀ x ∈ xs, x.length ≤ 1000000 := by
    intro x hx
    have : ∀ (ys : List (List UInt8)), x ∈ ys → x.length ≤ sumL ys := by
      intro ys
      induction ys with
      | nil => intro h; cases h
      | cons y t ih =>
        intro h
        rw [sumL_cons]
        rcases List.mem_cons.1 h with rfl | h
        · omega
        · have := ih h; omega
    have := this xs hx
    omega
  have hl : xs.length ≤ sumL xs := by
    clear h hs hB hJl hxl
    induction xs with
    | nil => exact Nat.zero_le _
    | cons x t ih => rw [sumL_cons, List.length_cons]; omega
  obtain ⟨a, c, rfl, hc, hcells⟩ := h
  have HC := Lib.hid hcells
  have HX := Lib.hid hxl
  have HJ := Lib.hid hJl
  clear hB hxl hcells hJl
  go_enter Tryd.func87, Tryd.ntmps87
  go_wp2_with fail
  go_loop [5, 6] (fun s i => ∃ (k : Nat) (t : List UInt8), k ≤ xs.length ∧ s = .string ⟨t.toArray⟩ ∧ t.length ≤ 1000000 ∧ Hid (t = joinB (xs.take k)) ∧ i = .int .i64 k) (fun _ i => xs.length - (intOf i).toNat)
  case atStart => exact ⟨0, [], Nat.zero_le _, rfl, by decide, Lib.hid rfl, rfl⟩
  case round =>
    obtain ⟨k, t, hk, rfl, htl, HT, rfl⟩ := hrel
    by_cases hlt : k < xs.length
    · obtain ⟨bb, off, rfl, hbb, hcl⟩ := HC.out k hlt
      have hxl := HX.out _ (List.getElem_mem hlt)
      have htk : xs.take (k + 1) = xs.take k ++ [xs[k]'hlt] := by rw [List.take_succ_eq_append_getElem hlt]
      have hj1 := HJ.out (k + 1)
      obtain ⟨x, he⟩ : ∃ x, xs[k]'hlt = x := ⟨_, rfl⟩
      rw [he] at hcl hxl htk
      clear he hbb
      by_cases h0 : k = 0
      · subst h0
        rw [Nat.add_zero] at hcl
        have ht0 : t = [] := by rw [HT.out]; rfl
        have HR : Hid (x = joinB (xs.take (0 + 1))) := Lib.hid (by rw [htk]; simp [joinB])
        subst ht0
        clear htk hj1
        go_wp2_with fail
        go_round
        case rel => exact ⟨0 + 1, x, by omega, rfl, hxl, HR, by go_num⟩
        case measure => simp [intOf]; omega
      · have g0 : decide (0 < (k : Int)) = true := by rw [decide_eq_true_iff]; omega
        have hne : xs.take k ≠ [] := List.ne_nil_of_length_pos (by rw [List.length_take]; omega)
        have HR : Hid (t ++ 10 :: x = joinB (xs.take (k + 1))) := Lib.hid (by rw [htk, joinB_snoc _ _ hne, ← HT.out]; simp)
        have hlen : (t ++ 10 :: x).length ≤ 1000000 := by rw [HR.out]; exact hj1
        clear htk hj1 hne
        go_wp2_with fail
        go_round
        case rel => exact ⟨k + 1, t ++ 10 :: x, by omega, rfl, hlen, HR, by go_num⟩
        case measure => simp [intOf]; omega
    · obtain rfl : k = xs.length := by omega
      go_wp2_with fail
      go_ret
      exact ⟨ret_str (by rw [HT.out, List.take_length]), rfl⟩
set_option maxRecDepth 100000 in
set_option maxHeartbeats 8000000 in
theorem rfold_yes (v : Value) (xs : List (List UInt8)) (w : World) (h : Slc w v xs) (hs : sumL xs ≤ 1000000) :
    Calls Tryd.prog 87 #[v, .bool true] w fun e w' => e = .returned (.string ⟨(blockM xs true).toArray⟩) ∧ w = w' := by
  have hB : blockM xs true = foldB xs [] 0 := rfl
  rw [hB]
  have hF := foldB_len xs [] 0
  generalize hT : foldB xs [] 0 = T at *
  have HT := Lib.hid hT
  have hxl : ∀ x ∈ xs, x.length ≤ 1000000 := by
    intro x hx
    have : ∀ (ys : List (List UInt8)), x ∈ ys → x.length ≤ sumL ys := by
      intro ys
      induction ys with
      | nil => intro h; cases h
      | cons y t ih =>
        intro h
        rw [sumL_cons]
        rcases List.mem_cons.1 h with rfl | h
        · omega
        · have := ih h; omega
    have := this xs hx
    omega
  have hl : xs.length ≤ sumL xs := by
    clear h hs hT HT hF hB hxl
    induction xs with
    | nil => exact Nat.zero_le _
    | cons x t ih => rw [sumL_cons, List.length_cons]; omega
  have HX := Lib.hid hxl
  obtain ⟨a, c, rfl, hc, hcells⟩ := h
  have HC := Lib.hid hcells
  clear hB hT hxl hcells
  go_enter Tryd.func87, Tryd.ntmps87
  go_wp2_with fail
  go_loop [5, 7, 8, 9] (fun s5 s7 s8 s9 => ∃ (k b : Nat) (li : Int) (last acc : List UInt8), k ≤ xs.length ∧ b ≤ k ∧ s9 = .int .i64 k ∧ s8 = .int .i64 b ∧ s7 = .int .i64 li ∧ s5 = .string ⟨acc.toArray⟩ ∧ acc.length ≤ 1000000 ∧ Hid (LastIs xs li last) ∧ Hid (acc ++ foldB (xs.drop k) last b = T)) (fun _ _ _ s9 => xs.length - (intOf s9).toNat)
  case atStart => exact ⟨0, 0, -1, [], [], Nat.zero_le _, Nat.le_refl _, rfl, rfl, rfl, rfl, by decide, Lib.hid (.inl ⟨rfl, rfl⟩), Lib.hid HT.out⟩
  case round =>
    obtain ⟨k, b, li, last, acc, hk, hbk, rfl, rfl, rfl, rfl, hal, HL, HR⟩ := hrel
    by_cases hlt : k < xs.length
    · obtain ⟨bb, off, rfl, hbb, hcl⟩ := HC.out k hlt
      have hxl := HX.out _ (List.getElem_mem hlt)
      have hdr : xs.drop k = xs[k]'hlt :: xs.drop (k + 1) := List.drop_eq_getElem_cons hlt
      obtain ⟨x, he⟩ : ∃ x, xs[k]'hlt = x := ⟨_, rfl⟩
      have HE := Lib.hid he
      rw [he] at hcl hdr hxl
      have HD := Lib.hid hdr
      clear hdr he hbb
      by_cases hx : x = []
      · subst hx
        have HR2 : Hid (acc ++ foldB (xs.drop (k + 1)) last (b + 1) = T) := Lib.hid (by
          have h1 := HR.out
          rw [HD.out, foldB, if_pos rfl] at h1
          exact h1)
        clear HR HD
        go_wp2_with fail
        go_round
        case rel => exact ⟨k + 1, b + 1, li, last, acc, by omega, by omega, by go_num, by go_num, rfl, rfl, hal, HL, HR2⟩
        case measure => simp [intOf]; omega
      · have gx : x.isEmpty = false := by cases x with | nil => exact absurd rfl hx | cons _ _ => rfl
        have gx2 : (x == []) = false := by cases x with | nil => exact absurd rfl hx | cons _ _ => rfl
        have hx0 : 0 < x.length := List.length_pos_iff.2 hx
        have HR1 : Hid (acc ++ (sepM last x b ++ x ++ foldB (xs.drop (k + 1)) x 0) = T) := Lib.hid (by
          have h1 := HR.out
          rw [HD.out, foldB, if_neg hx] at h1
          exact h1)
        have hsl : acc.length + (sepM last x b).length + x.length ≤ T.length := by
          rw [← HR1.out]
          simp only [List.length_append]
          omega
        have HL2 : Hid (LastIs xs (k : Int) x) := Lib.hid (.inr ⟨k, rfl, hlt, HE.out, hx⟩)
        clear HR HD hx HE
        rcases HL.out with ⟨rfl, rfl⟩ | ⟨j, rfl, hj, hje, hl0⟩
        · have hsp : sepM [] x b = List.replicate b 10 := rfl
          clear HL
          rw [hsp] at HR1 hsl
          clear hsp
          have hR := fun w => rfeeds_c b w (by omega)
          generalize List.replicate b (10 : UInt8) = sp at *
          go_wp2_with fail
          refine (hR _).mono ?_
          rintro e w1 ⟨rfl, rfl⟩
          go_wp2_with fail
          go_round
          case rel => exact ⟨k + 1, 0, k, x, acc ++ (sp ++ x), by omega, by omega, by go_num, rfl, rfl, rfl, by simp only [List.length_append] at hsl ⊢; omega, HL2, Lib.hid (by rw [← HR1.out]; simp)⟩
          case measure => simp [intOf]; omega
        · have hla : 0 < last.length := List.length_pos_iff.2 hl0
          obtain ⟨bb2, off2, e2, _, hcj⟩ := HC.out j hj
          injection e2 with e2
          injection e2 with e2 e3
          subst e2 e3
          rw [hje] at hcj
          have hll : last.length ≤ 1000000 := by rw [← hje]; exact HX.out _ (List.getElem_mem hj)
          have hj0 : ¬ (j : Int) < 0 := by omega
          have hW1 := fun w => rwhite_c (byt last 0) w (byt_lt last 0)
          have hW2 := fun w => rwhite_c (byt x 0) w (byt_lt x 0)
          have hsp : sepM last x b = if whN (byt last 0) = true ∨ whN (byt x 0) = true then List.replicate (b + 1) 10 else gapM b := by
            unfold sepM gapM
            rw [if_neg hl0]
          clear HL hje
          cases h1 : whN (byt last 0) with
          | true =>
            rw [h1] at hW1 hsp
            rw [if_pos (.inl rfl)] at hsp
            clear h1 hl0
            rw [hsp] at HR1 hsl
            clear hsp
            have hR := fun w => rfeeds_c (b + 1) w (by omega)
            rw [show ((b + 1 : Nat) : Int) = (b : Int) + 1 by omega] at hR
            generalize List.replicate (b + 1) (10 : UInt8) = sp at *
            go_wp2_with fail
            refine (hW1 _).mono ?_
            rintro e w9 ⟨rfl, rfl⟩
            go_wp2_with fail
            refine (hR _).mono ?_
            rintro e w1 ⟨rfl, rfl⟩
            go_wp2_with fail
            go_round
            case rel => exact ⟨k + 1, 0, k, x, acc ++ (sp ++ x), by omega, by omega, by go_num, rfl, rfl, rfl, by simp only [List.length_append] at hsl ⊢; omega, HL2, Lib.hid (by rw [← HR1.out]; simp)⟩
            case measure => simp [intOf]; omega
          | false =>
            rw [h1] at hW1 hsp
            cases h2 : whN (byt x 0) with
            | true =>
              rw [h2] at hW2 hsp
              rw [if_pos (.inr rfl)] at hsp
              clear h1 h2 hl0
              rw [hsp] at HR1 hsl
              clear hsp
              have hR := fun w => rfeeds_c (b + 1) w (by omega)
              rw [show ((b + 1 : Nat) : Int) = (b : Int) + 1 by omega] at hR
              generalize List.replicate (b + 1) (10 : UInt8) = sp at *
              go_wp2_with fail
              refine (hW1 _).mono ?_
              rintro e w9 ⟨rfl, rfl⟩
              go_wp2_with fail
              refine (hW2 _).mono ?_
              rintro e w9 ⟨rfl, rfl⟩
              go_wp2_with fail
              refine (hR _).mono ?_
              rintro e w1 ⟨rfl, rfl⟩
              go_wp2_with fail
              go_round
              case rel => exact ⟨k + 1, 0, k, x, acc ++ (sp ++ x), by omega, by omega, by go_num, rfl, rfl, rfl, by simp only [List.length_append] at hsl ⊢; omega, HL2, Lib.hid (by rw [← HR1.out]; simp)⟩
              case measure => simp [intOf]; omega
            | false =>
              rw [h2] at hW2 hsp
              rw [if_neg (by decide)] at hsp
              clear h1 h2 hl0
              by_cases hb0 : b = 0
              · subst hb0
                have hsp : sepM last x 0 = [32] := hsp
                rw [hsp] at HR1 hsl
                clear hsp
                go_wp2_with fail
                refine (hW1 _).mono ?_
                rintro e w9 ⟨rfl, rfl⟩
                go_wp2_with fail
                refine (hW2 _).mono ?_
                rintro e w9 ⟨rfl, rfl⟩
                go_wp2_with fail
                go_round
                case rel => exact ⟨k + 1, 0, k, x, acc ++ 32 :: x, by omega, by omega, by go_num, rfl, rfl, rfl, by simp only [List.length_append, List.length_cons] at hsl ⊢; omega, HL2, Lib.hid (by rw [← HR1.out]; simp)⟩
                case measure => simp [intOf]; omega
              · have gb : ((b : Int) == 0) = false := by rw [beq_eq_false_iff_ne]; omega
                rw [show gapM b = List.replicate b 10 from if_neg hb0] at hsp
                clear hb0
                rw [hsp] at HR1 hsl
                clear hsp
                have hR := fun w => rfeeds_c b w (by omega)
                generalize List.replicate b (10 : UInt8) = sp at *
                go_wp2_with fail
                refine (hW1 _).mono ?_
                rintro e w9 ⟨rfl, rfl⟩
                go_wp2_with fail
                refine (hW2 _).mono ?_
                rintro e w9 ⟨rfl, rfl⟩
                go_wp2_with fail
                refine (hR _).mono ?_
                rintro e w1 ⟨rfl, rfl⟩
                go_wp2_with fail
                go_round
                case rel => exact ⟨k + 1, 0, k, x, acc ++ (sp ++ x), by omega, by omega, by go_num, rfl, rfl, rfl, by simp only [List.length_append] at hsl ⊢; omega, HL2, Lib.hid (by rw [← HR1.out]; simp)⟩
                case measure => simp [intOf]; omega
    · obtain rfl : k = xs.length := by omega
      have HR2 : Hid (acc ++ List.replicate (if last = [] then b - 1 else b) 10 = T) := Lib.hid (by
        have h1 := HR.out
        rw [List.drop_length, foldB] at h1
        exact h1)
      clear HR HC HX
      rcases HL.out with ⟨rfl, rfl⟩ | ⟨j, rfl, hj, hje, hl0⟩
      · rw [if_pos rfl] at HR2
        by_cases hb0 : b = 0
        · subst hb0
          have hR := fun w => rfeeds_c 0 w (by omega)
          have HR3 : Hid (acc = T) := Lib.hid (by have h1 := HR2.out; simpa using h1)
          clear HR2
          go_wp2_with fail
          refine (hR _).mono ?_
          rintro e w2 ⟨rfl, rfl⟩
          go_wp2_with fail
          go_ret
          exact ⟨ret_str (by simpa using HR3.out), rfl⟩
        · have gb : 0 < (b : Int) := by omega
          have hR := fun w => rfeeds_c (b - 1) w (by omega)
          rw [show ((b - 1 : Nat) : Int) = (b : Int) - 1 by omega] at hR
          have hrl : (List.replicate (b - 1) (10 : UInt8)).length ≤ 1000000 := by rw [List.length_replicate]; omega
          generalize List.replicate (b - 1) (10 : UInt8) = rp at *
          clear hb0
          go_wp2_with fail
          refine (hR _).mono ?_
          rintro e w2 ⟨rfl, rfl⟩
          go_wp2_with fail
          go_ret
          exact ⟨ret_str HR2.out, rfl⟩
      · rw [if_neg hl0] at HR2
        have hj0 : ¬ (j : Int) < 0 := by omega
        have hR := fun w => rfeeds_c b w (by omega)
        have hrl : (List.replicate b (10 : UInt8)).length ≤ 1000000 := by rw [List.length_replicate]; omega
        generalize List.replicate b (10 : UInt8) = rp at *
        clear hl0 hje
        go_wp2_with fail
        refine (hR _).mono ?_
        rintro e w2 ⟨rfl, rfl⟩
        go_wp2_with fail
        go_ret
        exact ⟨ret_str HR2.out, rfl⟩
theorem rfold_c (v : Value) (xs : List (List UInt8)) (f : Bool) (w : World) (h : Slc w v xs) (hs : sumL xs ≤ 1000000) :
    Calls Tryd.prog 87 #[v, .bool f] w fun e w' => e = .returned (.string ⟨(blockM xs f).toArray⟩) ∧ w = w' := by
  cases f with
  | false => exact rfold_no v xs w h hs
  | true => exact rfold_yes v xs w h hs
end Go.Proofs.YtobojdkloblfbaaDoor
