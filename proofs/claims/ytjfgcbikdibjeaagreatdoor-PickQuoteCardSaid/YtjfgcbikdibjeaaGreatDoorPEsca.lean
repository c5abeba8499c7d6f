/- Plain laws on escapes: what one tells. No program in sight. -/
import Derived.Test.YtjfgcbikdibjeaaGreatDoorPUtf
import Derived.Lib.Bytealg
namespace Go.Proofs.YtjfgcbikdibjeaaGreatDoor
namespace U
open Go

/-- The letters behind a backslash, and what they tell. -/
def escL : List Nat := [48, 97, 98, 116, 110, 118, 102, 114, 101, 9, 32, 34, 47, 92, 78, 95, 76, 80]
def escV : List Nat := [0, 7, 8, 9, 10, 11, 12, 13, 27, 9, 32, 34, 47, 92, 133, 160, 8232, 8233]
/-- From a letter on: what it tells. -/
def shortF (c : Nat) : List Nat → List Nat → Option Nat
  | [], _ => none
  | _, [] => none
  | x :: xs, v :: vs => if x = c then some v else shortF c xs vs
def shortM (c : Nat) : Option Nat := shortF c escL escV
def digM (c : Nat) : Nat := if c = 120 then 2 else if c = 117 then 4 else if c = 85 then 8 else 0
def hexD (c : Nat) : Option Nat := if 48 ≤ c ∧ c ≤ 57 then some (c - 48) else if 97 ≤ c ∧ c ≤ 102 then some (c - 87) else if 65 ≤ c ∧ c ≤ 70 then some (c - 55) else none
theorem hexD_lt {c d : Nat} (h : hexD c = some d) : d < 16 := by
  unfold hexD at h
  split at h
  · injection h; omega
  · split at h
    · injection h; omega
    · split at h
      · injection h; omega
      · cases h
/-- Hex digits, from a number on. -/
def hexF : List UInt8 → Nat → Option Nat
  | [], n => some n
  | b :: t, n => match hexD b.toNat with
    | none => none
    | some d => hexF t (n * 16 + d)
def scalarN (n : Nat) : Prop := n ≤ 1114111 ∧ ¬ (55296 ≤ n ∧ n ≤ 57343)
instance (n : Nat) : Decidable (scalarN n) := by unfold scalarN; infer_instance
def hexO (m : List UInt8) : Option Nat := match hexF m 0 with
  | none => none
  | some n => if scalarN n then some n else none
theorem hexF_grows : ∀ (m : List UInt8) (n k : Nat), hexF m n = some k → n ≤ k := by
  intro m
  induction m with
  | nil => intro n k h; injection h; omega
  | cons b t ih =>
    intro n k h
    rw [hexF] at h
    cases hd : hexD b.toNat with
    | none => rw [hd] at h; cases h
    | some d =>
      rw [hd] at h
      have := ih _ _ h
      omega
theorem hexF_big {m : List UInt8} {n : Nat} (h : 1114111 < n) : (match hexF m n with | none => none | some k => if scalarN k then some k else none) = none := by
  cases hk : hexF m n with
  | none => rfl
  | some k =>
    have := hexF_grows m n k hk
    show (if scalarN k then some k else none) = none
    rw [if_neg (fun h => by have := h.1; omega)]
theorem hexF_lt : ∀ (m : List UInt8) (n k : Nat), hexF m n = some k → k < (n + 1) * 16 ^ m.length := by
  intro m
  induction m with
  | nil => intro n k h; injection h; simp; omega
  | cons b t ih =>
    intro n k h
    rw [hexF] at h
    cases hd : hexD b.toNat with
    | none => rw [hd] at h; cases h
    | some d =>
      rw [hd] at h
      have h1 := ih _ _ h
      have h2 := hexD_lt hd
      refine Nat.lt_of_lt_of_le h1 ?_
      rw [List.length_cons, Nat.pow_succ, Nat.mul_comm (16 ^ t.length) 16, ← Nat.mul_assoc]
      exact Nat.mul_le_mul_right _ (by omega)
/-- An escape at a place: what it tells, where it ends, what is wrong. -/
def escM (l : List UInt8) (a : Int) : Int × Int × Int :=
  if a < 0 ∨ (l.length : Int) ≤ a + 1 ∨ byt l a.toNat ≠ 92 then (0, a, 5)
  else match shortM (byt l (a.toNat + 1)) with
    | some r => ((r : Int), a + 2, 0)
    | none =>
      if digM (byt l (a.toNat + 1)) = 0 ∨ (l.length : Int) < a + 2 + digM (byt l (a.toNat + 1)) then (0, a, 5)
      else match hexO ((l.drop (a.toNat + 2)).take (digM (byt l (a.toNat + 1)))) with
        | some r => ((r : Int), a + 2 + digM (byt l (a.toNat + 1)), 0)
        | none => (0, a, 5)
theorem short_get (i : Nat) (h : i < 18) : shortM (escL.getD i 0) = some (escV.getD i 0) := by
  revert i; decide
theorem short_none {c : Nat} (h : ∀ i, i < 18 → escL.getD i 0 ≠ c) : shortM c = none := by
  unfold shortM escL escV
  have g : ∀ i, i < 18 → escL.getD i 0 = c → False := fun i hi he => h i hi he
  simp only [shortF]
  repeat (rw [if_neg (fun he => by first | exact g 0 (by omega) he | exact g 1 (by omega) he | exact g 2 (by omega) he | exact g 3 (by omega) he | exact g 4 (by omega) he | exact g 5 (by omega) he | exact g 6 (by omega) he | exact g 7 (by omega) he | exact g 8 (by omega) he | exact g 9 (by omega) he | exact g 10 (by omega) he | exact g 11 (by omega) he | exact g 12 (by omega) he | exact g 13 (by omega) he | exact g 14 (by omega) he | exact g 15 (by omega) he | exact g 16 (by omega) he | exact g 17 (by omega) he)])
theorem short_mem {c v : Nat} (h : shortM c = some v) : ∃ i, i < 18 ∧ escL.getD i 0 = c ∧ escV.getD i 0 = v := by
  by_cases hn : ∀ i, i < 18 → escL.getD i 0 ≠ c
  · rw [short_none hn] at h; cases h
  · obtain ⟨i, hi⟩ := Classical.not_forall.1 hn
    obtain ⟨h1, h2⟩ := Classical.not_imp.1 hi
    have h2 : escL.getD i 0 = c := Classical.not_not.1 h2
    refine ⟨i, h1, h2, ?_⟩
    have := short_get i h1
    rw [h2, h] at this
    injection this with this
    exact this.symm
/-- What the program makes of a hex digit: the place among the sixteen, of the small letter. -/
def hexI (c : Nat) : Int := Lib.indexByte [48, 49, 50, 51, 52, 53, 54, 55, 56, 57, 97, 98, 99, 100, 101, 102] (c ||| 32).toUInt8
theorem hexI_all : ∀ c, c < 256 → (hexD c = none → hexI c < 0 ∨ c < 48) ∧ (∀ d, d < 16 → hexD c = some d → hexI c = d ∧ 48 ≤ c) := by decide +kernel
theorem hexI_none {c : Nat} (hc : c < 256) (h : hexD c = none) : hexI c < 0 ∨ c < 48 := (hexI_all c hc).1 h
theorem hexI_some {c d : Nat} (hc : c < 256) (h : hexD c = some d) : hexI c = d ∧ 48 ≤ c := (hexI_all c hc).2 d (hexD_lt h) h
end U
end Go.Proofs.YtjfgcbikdibjeaaGreatDoor
