/- The walks of bosketlaw0.Digits and Laid; a tag that is known. -/
import Derived.Test.YtjnmgmepolpcdaaDoorLawCoreTells
import Derived.Test.YtjnmgmepolpcdaaDoorPCore3
namespace Go.Proofs.YtjnmgmepolpcdaaDoor
open Go.RowKit U Go.Proofs

theorem tag_is (l x : List UInt8) (w0 w : World) (hA : At w0 w) (hs : l.length ≤ 1073741824) (h : coreR l = x) :
    Calls Tryd.prog 17 #[.string ⟨l.toArray⟩] w fun e w' => e = .returned (.string ⟨(longOf x).toArray⟩) ∧ At w0 w' := by
  refine (tag_c l w hs).mono ?_
  rw [core_eq, h]
  rintro e w' ⟨rfl, hb⟩
  exact ⟨rfl, hA.step hb⟩
/-- A number's digits. -/
def digitsF : Nat → Nat → List UInt8
  | 0, _ => []
  | f + 1, n => if n < 10 then [(48 + n).toUInt8] else digitsF f (n / 10) ++ [(48 + n % 10).toUInt8]
theorem digit_ok : ∀ n, n < 10 → dec10 (48 + n).toUInt8 = true := by decide
theorem digitsF_ok (f : Nat) : ∀ n, (digitsF f n).all dec10 = true ∧ (digitsF f n).length ≤ f ∧ (0 < f → digitsF f n ≠ []) := by
  induction f with
  | zero => intro n; exact ⟨rfl, Nat.le_refl _, fun h => absurd h (by omega)⟩
  | succ f ih =>
    intro n
    rw [digitsF]
    by_cases h : n < 10
    · rw [if_pos h]
      have := digit_ok n h
      exact ⟨by rw [List.all_cons, this]; rfl, by simp, by simp⟩
    · rw [if_neg h]
      obtain ⟨h1, h2, _⟩ := ih (n / 10)
      have := digit_ok (n % 10) (by omega)
      refine ⟨?_, by simp; omega, by simp⟩
      rw [List.all_append, h1, List.all_cons, this]
      rfl
set_option maxRecDepth 100000 in
set_option maxHeartbeats 2000000 in
theorem lawDigits_c (f : Nat) : ∀ (n : Nat) (m : Int) (w : World), m = n → n < 10 ^ f → f ≤ 9 → 0 < f →
    Calls Tryd.prog 20 #[.int .i64 m] w fun e w' => e = .returned (.string ⟨(digitsF f n).toArray⟩) ∧ w = w' := by
  induction f with
  | zero => intro n m w _ _ _ h; omega
  | succ f ih =>
    intro n m w hm hn hf _
    subst hm
    by_cases h10 : n < 10
    · have hc : n = 0 ∨ n = 1 ∨ n = 2 ∨ n = 3 ∨ n = 4 ∨ n = 5 ∨ n = 6 ∨ n = 7 ∨ n = 8 ∨ n = 9 := by omega
      rw [digitsF, if_pos h10]
      clear ih hn h10
      rcases hc with rfl | rfl | rfl | rfl | rfl | rfl | rfl | rfl | rfl | rfl
      all_goals
        go_enter Tryd.func20, Tryd.ntmps20
        go_wp2_with fail
        go_ret
        exact ⟨rfl, rfl⟩
    · have hf0 : 0 < f := by
        rcases Nat.eq_zero_or_pos f with h | h
        · subst h; simp at hn; omega
        · exact h
      have hn1 : n < 1000000000 := Nat.lt_of_lt_of_le hn (Nat.le_trans (Nat.pow_le_pow_right (by omega) hf) (by decide))
      have hlt : n / 10 < 10 ^ f := by
        rw [Nat.pow_succ] at hn
        omega
      have h1 := fun w => ih (n / 10) ((n : Int) / 10) w (by omega) hlt (by omega) hf0
      have h2 := fun w => ih (n % 10) ((n : Int) % 10) w (by omega) (Nat.lt_of_lt_of_le (by omega : n % 10 < 10) (by have := Nat.pow_le_pow_right (show 0 < 10 by omega) hf0; omega)) (by omega) hf0
      have hd2 : digitsF f (n % 10) = [(48 + n % 10).toUInt8] := by
        obtain ⟨g, rfl⟩ : ∃ g, f = g + 1 := ⟨f - 1, by omega⟩
        rw [digitsF, if_pos (by omega)]
      rw [hd2] at h2
      have hl := (digitsF_ok f (n / 10)).2.1
      rw [digitsF, if_neg h10]
      generalize digitsF f (n / 10) = d at *
      generalize (48 + n % 10).toUInt8 = q at *
      clear ih hd2 hlt hn
      go_enter Tryd.func20, Tryd.ntmps20
      go_wp2_with fail
      refine (h1 _).mono ?_
      rintro e w1 ⟨rfl, rfl⟩
      go_wp2_with fail
      refine (h2 _).mono ?_
      rintro e w1 ⟨rfl, rfl⟩
      go_wp2_with fail
      go_ret
      exact ⟨rfl, rfl⟩
/-- bosketlaw0.Laid. -/
def laidAt (l : List UInt8) (at0 : Int) (t : List UInt8) : List UInt8 := l.take (low at0 (l.length + 1)) ++ t ++ l.drop (low at0 (l.length + 1))
set_option maxRecDepth 100000 in
set_option maxHeartbeats 2000000 in
theorem laid_c (l t : List UInt8) (at0 : Int) (w0 w : World) (hA : At w0 w) (hs : l.length ≤ 1073741824) (ht : t.length ≤ 1073741824) :
    Calls Tryd.prog 21 #[.string ⟨l.toArray⟩, .int .i64 at0, .string ⟨t.toArray⟩] w fun e w' => e = .returned (.string ⟨(laidAt l at0 t).toArray⟩) ∧ At w0 w' := by
  unfold laidAt
  have hj := low_lt at0 (l.length + 1) (by omega)
  have hL := fun w => low_j at0 (l.length + 1) (low at0 (l.length + 1)) w (by omega) (by omega) rfl
  generalize low at0 (l.length + 1) = j at *
  have htk : (l.take j).length = j := by rw [List.length_take]; omega
  have hdk : (l.drop j).length ≤ l.length := by rw [List.length_drop]; omega
  go_enter Tryd.func21, Tryd.ntmps21
  go_wp2_with fail
  refine (hL _).mono ?_
  rintro e w1 ⟨rfl, rfl⟩
  go_wp2_with fail
  go_quiet (fail)
  have hA := hA.drewN nq
  go_wp2_with fail
  go_ret
  exact ⟨ret_str (by simp), hA⟩
end Go.Proofs.YtjnmgmepolpcdaaDoor
