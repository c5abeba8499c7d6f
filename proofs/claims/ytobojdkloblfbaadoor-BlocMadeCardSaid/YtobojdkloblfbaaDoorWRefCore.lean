/- The walks of bosketref1.Hex, digits, whole, number. -/
import Derived.Test.YtobojdkloblfbaaDoorWCore
namespace Go.Proofs.YtobojdkloblfbaaDoor
open Go.RowKit U Go.Proofs

/-- What a hex digit tells; -1. -/
def hexv (b : Nat) : Int := if 48 ≤ b ∧ b ≤ 57 then (b : Int) - 48 else if 97 ≤ b ∧ b ≤ 102 then (b : Int) - 87 else if 65 ≤ b ∧ b ≤ 70 then (b : Int) - 55 else -1
theorem hexv_range (b : Nat) : -1 ≤ hexv b ∧ hexv b ≤ 15 := by unfold hexv; split <;> (try split) <;> (try split) <;> omega
set_option maxRecDepth 100000 in
set_option maxHeartbeats 1000000 in
theorem hex_c (b : Nat) (w : World) (hb : b < 256) :
    Calls Tryd.prog 43 #[.int .u8 b] w fun e w' => e = .returned (.int .i32 (hexv b)) ∧ w = w' := by
  unfold hexv
  go_enter Tryd.func43, Tryd.ntmps43
  go_wp2
  all_goals (go_ret; refine ⟨ret_int ?_, rfl⟩)
  all_goals (first | omega | (simp at *; omega))
/-- A digit of a kind. -/
def digP (most : Int) (b : UInt8) : Bool := decide (0 ≤ hexv b.toNat ∧ hexv b.toNat < most)
theorem digP_8 : digP 8 = oct8 := byte_all (by decide +kernel)
theorem digP_10 : digP 10 = dec10 := byte_all (by decide +kernel)
theorem digP_16 : digP 16 = hex16 := byte_all (by decide +kernel)
theorem drop_cons2 (l : List UInt8) (k : Nat) (h : k < l.length) : l.drop k = l[k]'h :: l.drop (k + 1) := List.drop_eq_getElem_cons h

theorem allOf_len (p : UInt8 → Bool) (l : List UInt8) : allOf p l = decide (0 < (l.takeWhile p).length ∧ (l.takeWhile p).length = l.length) := by
  unfold allOf
  have h1 := dropWhile_nil_iff p l
  have hl : l.length = (l.takeWhile p).length + (l.dropWhile p).length := by rw [← List.length_append, List.takeWhile_append_dropWhile]
  cases ha : l.all p with
  | true =>
    have h2 := h1.2 ha
    rw [h2] at hl
    cases l with
    | nil => rfl
    | cons b t =>
      rw [Bool.and_true]
      simp at hl ⊢
      omega
  | false =>
    have h2 : l.dropWhile p ≠ [] := fun h => by rw [h1.1 h] at ha; cases ha
    have h3 := List.length_pos_iff.2 h2
    rw [Bool.and_false]
    symm
    rw [decide_eq_false_iff_not]
    omega
theorem drop_ne {l : List UInt8} {q : Nat} (h : q < l.length) : l.drop q ≠ [] := by
  intro hh; have := congrArg List.length hh; simp at this; omega
theorem drop_tw (p : UInt8 → Bool) (l : List UInt8) : l.drop (l.takeWhile p).length = l.dropWhile p := by
  induction l with
  | nil => rfl
  | cons b t ih =>
    by_cases h : p b
    · simp [h, ih]
    · simp [h]
end Go.Proofs.YtobojdkloblfbaaDoor
