/- The walks of bosketref1's functions on bytes: White, has, Flow, Word, Uri, Cut. -/
import Derived.Test.YtjfgcbikdibjeaaGreatDoorWRefCore
import Derived.Test.YtjfgcbikdibjeaaGreatDoorPAllA
namespace Go.Proofs.YtjfgcbikdibjeaaGreatDoor
open Go.RowKit U Go.Proofs

set_option maxRecDepth 100000 in
set_option maxHeartbeats 1000000 in
theorem rwhite_c (b : Nat) (w : World) (_hb : b < 256) : Calls Tryz.prog 51 #[.int .u8 b] w fun e w' => e = .returned (.bool (whN b)) ∧ w = w' := by
  unfold whN
  go_enter Tryz.func51, Tryz.ntmps51
  go_wp2
  all_goals (go_ret; refine ⟨ret_bool ?_, rfl⟩)
  all_goals (rw [Bool.eq_iff_iff]; simp at *; omega)
def hasM (l : List UInt8) (c : Nat) : Bool := l.any fun b => b.toNat == c
set_option maxRecDepth 100000 in
set_option maxHeartbeats 1000000 in
theorem has_c (l : List UInt8) (c : Nat) (w : World) (hs : l.length ≤ 1073741824) : Calls Tryz.prog 128 #[.string ⟨l.toArray⟩, .int .u8 c] w fun e w' => e = .returned (.bool (hasM l c)) ∧ w = w' := by
  go_enter Tryz.func128, Tryz.ntmps128
  go_wp2_with fail
  go_loop [5] (fun i => ∃ k : Nat, k ≤ l.length ∧ i = .int .i64 k ∧ Hid (hasM (l.drop k) c = hasM l c)) (fun i => l.length - (intOf i).toNat)
  case atStart => exact ⟨0, Nat.zero_le _, rfl, Lib.hid rfl⟩
  case round =>
    obtain ⟨k, hk, rfl, hK⟩ := hrel
    by_cases hlt : k < l.length
    · have hd : hasM (l.drop k) c = ((byt l k == c) || hasM (l.drop (k + 1)) c) := by
        rw [List.drop_eq_getElem_cons hlt, hasM, List.any_cons, byt_get l k hlt]
        rfl
      by_cases he : byt l k = c
      · have hr : Hid (hasM l c = true) := Lib.hid (by rw [← hK.out, hd, beq_iff_eq.2 he]; rfl)
        have g : ((byt l k : Int) == (c : Int)) = true := by rw [beq_iff_eq]; omega
        clear hd he
        go_wp2_with fail
        go_ret
        exact ⟨ret_bool (by rw [hr.out]), rfl⟩
      · have hn : Hid (hasM (l.drop (k + 1)) c = hasM l c) := Lib.hid (by rw [← hK.out, hd, beq_eq_false_iff_ne.2 he]; rfl)
        have g : ((byt l k : Int) == (c : Int)) = false := by rw [beq_eq_false_iff_ne]; omega
        clear hd he
        go_wp2_with fail
        go_round
        case rel => exact ⟨k + 1, by omega, by go_num, hn⟩
        case measure => simp [intOf]; omega
    · have hr : Hid (hasM l c = false) := Lib.hid (by rw [← hK.out, List.drop_eq_nil_of_le (by omega)]; rfl)
      go_wp2_with fail
      go_ret
      exact ⟨ret_bool (by rw [hr.out]), rfl⟩
theorem has_flow (c : Nat) : hasM [44, 91, 93, 123, 125] c = flowN c := by
  unfold hasM flowN
  rw [Bool.eq_iff_iff]
  simp
  omega
theorem has_uri (c : Nat) : (wordN c || hasM [35, 59, 47, 63, 58, 64, 38, 61, 43, 36, 95, 46, 33, 126, 42, 39, 40, 41, 37, 44, 91, 93] c) = uriN c := by
  unfold hasM uriN wordN
  rw [Bool.eq_iff_iff]
  simp
  omega
set_option maxRecDepth 100000 in
theorem rflow_c (b : Nat) (w : World) (_hb : b < 256) : Calls Tryz.prog 88 #[.int .u8 b] w fun e w' => e = .returned (.bool (flowN b)) ∧ w = w' := by
  rw [← has_flow]
  have hH := fun w => has_c [44, 91, 93, 123, 125] b w (by decide)
  generalize hasM [44, 91, 93, 123, 125] b = x at *
  go_enter Tryz.func88, Tryz.ntmps88
  go_wp2_with fail
  refine (hH _).mono ?_
  rintro e w1 ⟨rfl, rfl⟩
  go_wp2_with fail
  go_ret
  exact ⟨rfl, rfl⟩
/-- A text without White at its end. -/
def cutM (l : List UInt8) : List UInt8 := (l.reverse.dropWhile wh).reverse
theorem cutM_at {l : List UInt8} {n : Nat} (h : n < l.length) : cutM (l.take (n + 1)) = if wh (l[n]'h) then cutM (l.take n) else l.take (n + 1) := by
  unfold cutM
  rw [List.take_succ_eq_append_getElem h, List.reverse_append]
  simp only [List.reverse_cons, List.reverse_nil, List.nil_append, List.cons_append]
  by_cases hb : wh (l[n]'h) = true
  · rw [if_pos hb]; simp [hb]
  · rw [if_neg hb]; simp [hb]
end Go.Proofs.YtjfgcbikdibjeaaGreatDoor
