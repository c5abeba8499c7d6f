/- The walks of bosketref1's functions on bytes: White, has, Flow, Word, Uri, Cut. -/
import Derived.Test.YtobojdkloblfbaaDoorWRefCore
import Derived.Test.YtobojdkloblfbaaDoorPSign
namespace Go.Proofs.YtobojdkloblfbaaDoor
open Go.RowKit U Go.Proofs

set_option maxRecDepth 100000 in
set_option maxHeartbeats 1000000 in
theorem rwhite_c (b : Nat) (w : World) (_hb : b < 256) : Calls Tryd.prog 116 #[.int .u8 b] w fun e w' => e = .returned (.bool (whN b)) ∧ w = w' := by
  unfold whN
  go_enter Tryd.func116, Tryd.ntmps116
  go_wp2
  all_goals (go_ret; refine ⟨ret_bool ?_, rfl⟩)
  all_goals (rw [Bool.eq_iff_iff]; simp at *; omega)
def hasM (l : List UInt8) (c : Nat) : Bool := l.any fun b => b.toNat == c
theorem has_flow (c : Nat) : hasM [44, 91, 93, 123, 125] c = flowN c := by
  unfold hasM flowN
  rw [Bool.eq_iff_iff]
  simp
  omega
theorem has_uri (c : Nat) : (wordN c || hasM [35, 59, 47, 63, 58, 64, 38, 61, 43, 36, 95, 46, 33, 126, 42, 39, 40, 41, 37, 44, 91, 93] c) = uriN c := by
  unfold hasM uriN wordN
  rw [Bool.eq_iff_iff]
  simp
  omega
/-- A text without White at its end. -/
def cutM (l : List UInt8) : List UInt8 := (l.reverse.dropWhile wh).reverse
theorem cutM_at {l : List UInt8} {n : Nat} (h : n < l.length) : cutM (l.take (n + 1)) = if wh (l[n]'h) then cutM (l.take n) else l.take (n + 1) := by
  unfold cutM
  rw [List.take_succ_eq_append_getElem h, List.reverse_append]
  simp only [List.reverse_cons, List.reverse_nil, List.nil_append, List.cons_append]
  by_cases hb : wh (l[n]'h) = true
  · rw [if_pos hb]; simp [hb]
  · rw [if_neg hb]; simp [hb]
set_option maxRecDepth 100000 in
set_option maxHeartbeats 2000000 in
theorem rcut_c (l : List UInt8) (w : World) (hs : l.length ≤ 1073741824) : Calls Tryd.prog 113 #[.string ⟨l.toArray⟩] w fun e w' => e = .returned (.string ⟨(cutM l).toArray⟩) ∧ w = w' := by
  go_enter Tryd.func113, Tryd.ntmps113
  go_wp2_with fail
  go_loop [3] (fun i => ∃ n : Nat, n ≤ l.length ∧ i = .int .i64 n ∧ Hid (cutM (l.take n) = cutM l)) (fun i => (intOf i).toNat)
  case atStart => exact ⟨l.length, Nat.le_refl _, rfl, Lib.hid (by rw [List.take_length])⟩
  case round =>
    obtain ⟨n, hn, rfl, hK⟩ := hrel
    by_cases h0 : 1 ≤ n
    · obtain ⟨m, rfl⟩ : ∃ m, n = m + 1 := ⟨n - 1, by omega⟩
      have hlt : m < l.length := by omega
      have hc := cutM_at hlt
      have hwb : wh (l[m]'hlt) = whN (byt l m) := by unfold wh; rw [byt_get l m hlt]
      rw [hwb] at hc
      have hW := fun w => rwhite_c (byt l m) w (byt_lt l m)
      generalize whN (byt l m) = b at *
      have hix : (((m + 1 : Nat) : Int) - 1).toNat = m := by omega
      cases b with
      | true =>
        have hr : Hid (cutM (l.take m) = cutM l) := Lib.hid (by rw [← hK.out, hc]; rfl)
        clear hc
        go_wp2_with fail
        refine (hW _).mono ?_
        rintro e w1 ⟨rfl, rfl⟩
        go_wp2_with fail
        go_round
        case rel => exact ⟨m, by omega, by go_num, hr⟩
        case measure => simp [intOf]
      | false =>
        have hr : Hid (cutM l = l.take (m + 1)) := Lib.hid (by rw [← hK.out, hc]; rfl)
        clear hc
        go_wp2_with fail
        refine (hW _).mono ?_
        rintro e w1 ⟨rfl, rfl⟩
        go_wp2_with fail
        go_ret
        exact ⟨ret_str (by rw [hr.out]), rfl⟩
    · obtain rfl : n = 0 := by omega
      have hr : Hid (cutM l = []) := Lib.hid (by rw [← hK.out]; rfl)
      go_wp2_with fail
      go_ret
      exact ⟨ret_str (by rw [hr.out]), rfl⟩
end Go.Proofs.YtobojdkloblfbaaDoor
