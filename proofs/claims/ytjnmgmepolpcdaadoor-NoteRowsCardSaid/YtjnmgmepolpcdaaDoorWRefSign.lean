/- The walks of bosketref1's functions on bytes: White, has, Flow, Word, Uri, Cut. -/
import Derived.Test.YtjnmgmepolpcdaaDoorWRefCore
import Derived.Test.YtjnmgmepolpcdaaDoorPSign
namespace Go.Proofs.YtjnmgmepolpcdaaDoor
open Go.RowKit U Go.Proofs

set_option maxRecDepth 100000 in
set_option maxHeartbeats 1000000 in
theorem rwhite_c (b : Nat) (w : World) (_hb : b < 256) : Calls Tryd.prog 83 #[.int .u8 b] w fun e w' => e = .returned (.bool (whN b)) ∧ w = w' := by
  unfold whN
  go_enter Tryd.func83, Tryd.ntmps83
  go_wp2
  all_goals (go_ret; refine ⟨ret_bool ?_, rfl⟩)
  all_goals (rw [Bool.eq_iff_iff]; simp at *; omega)
set_option maxRecDepth 100000 in
set_option maxHeartbeats 2000000 in
theorem rword_c (b : Nat) (w : World) (_hb : b < 256) : Calls Tryd.prog 136 #[.int .u8 b] w fun e w' => e = .returned (.bool (wordN b)) ∧ w = w' := by
  unfold wordN
  go_enter Tryd.func136, Tryd.ntmps136
  go_wp2
  all_goals (go_ret; refine ⟨ret_bool ?_, rfl⟩)
  all_goals (rw [Bool.eq_iff_iff]; simp at *; omega)
def hasM (l : List UInt8) (c : Nat) : Bool := l.any fun b => b.toNat == c
set_option maxRecDepth 100000 in
set_option maxHeartbeats 1000000 in
theorem has_c (l : List UInt8) (c : Nat) (w : World) (hs : l.length ≤ 1073741824) : Calls Tryd.prog 137 #[.string ⟨l.toArray⟩, .int .u8 c] w fun e w' => e = .returned (.bool (hasM l c)) ∧ w = w' := by
  go_enter Tryd.func137, Tryd.ntmps137
  go_wp2_with fail
  go_loop [5] (fun i => ∃ k : Nat, k ≤ l.length ∧ i = .int .i64 k ∧ Hid (hasM (l.drop k) c = hasM l c)) (fun i => l.length - (intOf i).toNat)
  case atStart => exact ⟨0, Nat.zero_le _, rfl, Lib.hid rfl⟩
  case round =>
    obtain ⟨k, hk, rfl, hK⟩ := hrel
    by_cases hlt : k < l.length
    · have hd : hasM (l.drop k) c = ((byt l k == c) || hasM (l.drop (k + 1)) c) := by
        rw [List.drop_eq_getElem_cons hlt, hasM, List.any_cons, byt_get l k hlt]
        rfl
      by_cases he : byt l k = c
      · have hr : Hid (hasM l c = true) := Lib.hid (by rw [← hK.out, hd, beq_iff_eq.2 he]; rfl)
        have g : ((byt l k : Int) == (c : Int)) = true := by rw [beq_iff_eq]; omega
        clear hd he
        go_wp2_with fail
        go_ret
        exact ⟨ret_bool (by rw [hr.out]), rfl⟩
      · have hn : Hid (hasM (l.drop (k + 1)) c = hasM l c) := Lib.hid (by rw [← hK.out, hd, beq_eq_false_iff_ne.2 he]; rfl)
        have g : ((byt l k : Int) == (c : Int)) = false := by rw [beq_eq_false_iff_ne]; omega
        clear hd he
        go_wp2_with fail
        go_round
        case rel => exact ⟨k + 1, by omega, by go_num, hn⟩
        case measure => simp [intOf]; omega
    · have hr : Hid (hasM l c = false) := Lib.hid (by rw [← hK.out, List.drop_eq_nil_of_le (by omega)]; rfl)
      go_wp2_with fail
      go_ret
      exact ⟨ret_bool (by rw [hr.out]), rfl⟩
theorem has_flow (c : Nat) : hasM [44, 91, 93, 123, 125] c = flowN c := by
  unfold hasM flowN
  rw [Bool.eq_iff_iff]
  simp
  omega
theorem has_uri (c : Nat) : (wordN c || hasM [35, 59, 47, 63, 58, 64, 38, 61, 43, 36, 95, 46, 33, 126, 42, 39, 40, 41, 37, 44, 91, 93] c) = uriN c := by
  unfold hasM uriN wordN
  rw [Bool.eq_iff_iff]
  simp
  omega
set_option maxRecDepth 100000 in
theorem rflow_c (b : Nat) (w : World) (_hb : b < 256) : Calls Tryd.prog 117 #[.int .u8 b] w fun e w' => e = .returned (.bool (flowN b)) ∧ w = w' := by
  rw [← has_flow]
  have hH := fun w => has_c [44, 91, 93, 123, 125] b w (by decide)
  generalize hasM [44, 91, 93, 123, 125] b = x at *
  go_enter Tryd.func117, Tryd.ntmps117
  go_wp2_with fail
  refine (hH _).mono ?_
  rintro e w1 ⟨rfl, rfl⟩
  go_wp2_with fail
  go_ret
  exact ⟨rfl, rfl⟩
set_option maxRecDepth 100000 in
theorem ruri_c (b : Nat) (w : World) (hb : b < 256) : Calls Tryd.prog 119 #[.int .u8 b] w fun e w' => e = .returned (.bool (uriN b)) ∧ w = w' := by
  rw [← has_uri]
  have hW := fun w => rword_c b w hb
  have hH := fun w => has_c [35, 59, 47, 63, 58, 64, 38, 61, 43, 36, 95, 46, 33, 126, 42, 39, 40, 41, 37, 44, 91, 93] b w (by decide)
  generalize hasM [35, 59, 47, 63, 58, 64, 38, 61, 43, 36, 95, 46, 33, 126, 42, 39, 40, 41, 37, 44, 91, 93] b = x at *
  generalize wordN b = y at *
  cases y with
  | true =>
    go_enter Tryd.func119, Tryd.ntmps119
    go_wp2_with fail
    refine (hW _).mono ?_
    rintro e w1 ⟨rfl, rfl⟩
    go_wp2_with fail
    go_ret
    exact ⟨rfl, rfl⟩
  | false =>
    go_enter Tryd.func119, Tryd.ntmps119
    go_wp2_with fail
    refine (hW _).mono ?_
    rintro e w1 ⟨rfl, rfl⟩
    go_wp2_with fail
    refine (hH _).mono ?_
    rintro e w1 ⟨rfl, rfl⟩
    go_wp2_with fail
    go_ret
    exact ⟨rfl, rfl⟩
/-- A text without White at its end. -/
def cutM (l : List UInt8) : List UInt8 := (l.reverse.dropWhile wh).reverse
theorem cutM_at {l : List UInt8} {n : Nat} (h : n < l.length) : cutM (l.take (n + 1)) = if wh (l[n]'h) then cutM (l.take n) else l.take (n + 1) := by
  unfold cutM
  rw [List.take_succ_eq_append_getElem h, List.reverse_append]
  simp only [List.reverse_cons, List.reverse_nil, List.nil_append, List.cons_append]
  by_cases hb : wh (l[n]'h) = true
  · rw [if_pos hb]; simp [hb]
  · rw [if_neg hb]; simp [hb]
set_option maxRecDepth 100000 in
set_option maxHeartbeats 2000000 in
theorem rcut_c (l : List UInt8) (w : World) (hs : l.length ≤ 1073741824) : Calls Tryd.prog 84 #[.string ⟨l.toArray⟩] w fun e w' => e = .returned (.string ⟨(cutM l).toArray⟩) ∧ w = w' := by
  go_enter Tryd.func84, Tryd.ntmps84
  go_wp2_with fail
  go_loop [3] (fun i => ∃ n : Nat, n ≤ l.length ∧ i = .int .i64 n ∧ Hid (cutM (l.take n) = cutM l)) (fun i => (intOf i).toNat)
  case atStart => exact ⟨l.length, Nat.le_refl _, rfl, Lib.hid (by rw [List.take_length])⟩
  case round =>
    obtain ⟨n, hn, rfl, hK⟩ := hrel
    by_cases h0 : 1 ≤ n
    · obtain ⟨m, rfl⟩ : ∃ m, n = m + 1 := ⟨n - 1, by omega⟩
      have hlt : m < l.length := by omega
      have hc := cutM_at hlt
      have hwb : wh (l[m]'hlt) = whN (byt l m) := by unfold wh; rw [byt_get l m hlt]
      rw [hwb] at hc
      have hW := fun w => rwhite_c (byt l m) w (byt_lt l m)
      generalize whN (byt l m) = b at *
      have hix : (((m + 1 : Nat) : Int) - 1).toNat = m := by omega
      cases b with
      | true =>
        have hr : Hid (cutM (l.take m) = cutM l) := Lib.hid (by rw [← hK.out, hc]; rfl)
        clear hc
        go_wp2_with fail
        refine (hW _).mono ?_
        rintro e w1 ⟨rfl, rfl⟩
        go_wp2_with fail
        go_round
        case rel => exact ⟨m, by omega, by go_num, hr⟩
        case measure => simp [intOf]
      | false =>
        have hr : Hid (cutM l = l.take (m + 1)) := Lib.hid (by rw [← hK.out, hc]; rfl)
        clear hc
        go_wp2_with fail
        refine (hW _).mono ?_
        rintro e w1 ⟨rfl, rfl⟩
        go_wp2_with fail
        go_ret
        exact ⟨ret_str (by rw [hr.out]), rfl⟩
    · obtain rfl : n = 0 := by omega
      have hr : Hid (cutM l = []) := Lib.hid (by rw [← hK.out]; rfl)
      go_wp2_with fail
      go_ret
      exact ⟨ret_str (by rw [hr.out]), rfl⟩
end Go.Proofs.YtjnmgmepolpcdaaDoor
