/- Plain laws on escapes: digits without zeros ahead; the document's digits; doubled quotes. -/
import Derived.Test.YtjfgcbikdibjeaaGreatDoorPEsca3
import Derived.Lib.ReplaceLaws
namespace Go.Proofs.YtjfgcbikdibjeaaGreatDoor
namespace U
open Go

/-- A number's hex digits, no zeros ahead. -/
def hexS : Nat → Nat → List UInt8
  | 0, _ => []
  | f + 1, n => if n < 16 then [hexC n] else hexS f (n / 16) ++ [hexC (n % 16)]
theorem hexE_zero : ∀ k, hexE k 0 = List.replicate k 48 := by
  intro k
  induction k with
  | zero => rfl
  | succ k ih => rw [hexE, Nat.zero_div, ih, List.replicate_succ']; rfl
theorem hexS_pad : ∀ (k f n : Nat), n < 16 ^ k → k ≤ f → 1 ≤ k → List.replicate (k - (hexS f n).length) 48 ++ hexS f n = hexE k n ∧ (hexS f n).length ≤ k ∧ 1 ≤ (hexS f n).length := by
  intro k
  induction k with
  | zero => intro f n _ _ h; omega
  | succ k ih =>
    intro f n hn hf _
    obtain ⟨f, rfl⟩ : ∃ g, f = g + 1 := ⟨f - 1, by omega⟩
    rw [hexS]
    by_cases h : n < 16
    · rw [if_pos h]
      refine ⟨?_, by simp, by simp⟩
      rw [hexE, Nat.div_eq_of_lt h, hexE_zero, Nat.mod_eq_of_lt h]
      rfl
    · rw [if_neg h]
      have hk : 1 ≤ k := by
        rcases Nat.eq_zero_or_pos k with h0 | h0
        · subst h0; simp at hn; omega
        · exact h0
      obtain ⟨h1, h2, h3⟩ := ih f (n / 16) (by rw [Nat.pow_succ] at hn; omega) (by omega) hk
      rw [List.length_append, List.length_cons, List.length_nil]
      refine ⟨?_, by omega, by omega⟩
      rw [show k + 1 - ((hexS f (n / 16)).length + (0 + 1)) = k - (hexS f (n / 16)).length by omega, ← List.append_assoc, h1]
      rfl
/-- The document's digits, from the first one on. -/
theorem hexE_step (i m n : Nat) : hexE (m + 1) (n / 16 ^ i) = hexE m (n / 16 ^ (i + 1)) ++ [hexC (n / 16 ^ i % 16)] := by
  rw [hexE, Nat.div_div_eq_div_mul, ← Nat.pow_succ]
theorem count_q (l : List UInt8) : Lib.count l [39] ≤ l.length + 1 := Lib.count_le _ _
theorem repl_dbl : ∀ l : List UInt8, Lib.replaceAll l [39] [39, 39] = dbl l := by
  intro l
  induction l with
  | nil => rw [repl_nil _ _ (by decide) (by decide)]; rfl
  | cons b l ih =>
    rw [dbl_cons]
    by_cases h : b = 39
    · subst h
      rw [repl_yes (39 :: l) [39] [39, 39] (by decide) (by simp) (by decide) rfl, if_pos rfl]
      show [39, 39] ++ Lib.replaceAll l [39] [39, 39] = _
      rw [ih]
    · rw [repl_no _ _ _ _ (by decide) (by decide) (by have hb : ((39 : UInt8) == b) = false := (by rw [beq_eq_false_iff_ne]; exact fun e => h e.symm); show ((39 : UInt8) == b && _) = false; rw [hb]; rfl), if_neg h, ih]
      rfl
end U
end Go.Proofs.YtjfgcbikdibjeaaGreatDoor
