/- What bytes are (chapter 4). No program in sight. -/
import Derived.Test.YtjfgcbikdibjeaaGreatDoorPUtf2
namespace Go.Proofs.YtjfgcbikdibjeaaGreatDoor
namespace U
open Go

def whN (b : Nat) : Bool := decide (b = 32 ∨ b = 9)
def flowN (b : Nat) : Bool := decide (b = 44 ∨ b = 91 ∨ b = 93 ∨ b = 123 ∨ b = 125)
def wordN (b : Nat) : Bool := decide ((97 ≤ b ∧ b ≤ 122) ∨ (65 ≤ b ∧ b ≤ 90) ∨ (48 ≤ b ∧ b ≤ 57) ∨ b = 45)
def uriN (b : Nat) : Bool := decide ((b = 35 ∨ b = 59 ∨ b = 47 ∨ b = 63 ∨ b = 58 ∨ b = 64 ∨ b = 38 ∨ b = 61 ∨ b = 43 ∨ b = 36 ∨ b = 95 ∨ b = 46 ∨ b = 33 ∨ b = 126 ∨ b = 42 ∨ b = 39 ∨ b = 40 ∨ b = 41 ∨ b = 37 ∨ b = 44 ∨ b = 91 ∨ b = 93) ∨ (97 ≤ b ∧ b ≤ 122) ∨ (65 ≤ b ∧ b ≤ 90) ∨ (48 ≤ b ∧ b ≤ 57) ∨ b = 45)
def hexN (b : Nat) : Bool := decide ((48 ≤ b ∧ b ≤ 57) ∨ (97 ≤ b ∧ b ≤ 102) ∨ (65 ≤ b ∧ b ≤ 70))
def wh (b : UInt8) : Bool := whN b.toNat
/-- A text's words: what stands so far, and the rest. -/
def wordsF (cur : List UInt8) : List UInt8 → List (List UInt8)
  | [] => if cur.isEmpty then [] else [cur]
  | b :: t => if wh b then (if cur.isEmpty then wordsF [] t else cur :: wordsF [] t) else wordsF (cur ++ [b]) t
def wordsM (l : List UInt8) : List (List UInt8) := wordsF [] l
theorem wordsF_no (u : List UInt8) (hu : ∀ x ∈ u, wh x = false) : ∀ (cur t : List UInt8), wordsF cur (u ++ t) = wordsF (cur ++ u) t := by
  induction u with
  | nil => intro cur t; simp
  | cons b u ih =>
    intro cur t
    rw [List.cons_append, wordsF, if_neg (by rw [hu b (by simp)]; decide), ih (fun x hx => hu x (by simp [hx])), List.append_assoc]
    rfl
theorem wordsF_yes (cur : List UInt8) (b : UInt8) (t : List UInt8) (h : wh b = true) : wordsF cur (b :: t) = (if cur.isEmpty then [] else [cur]) ++ wordsF [] t := by
  rw [wordsF, if_pos h]
  cases cur <;> rfl
/-- Words are no longer than what they are of. -/
theorem wordsF_len : ∀ (l cur : List UInt8), (wordsF cur l).length ≤ l.length + 1 ∧ ∀ x ∈ wordsF cur l, x.length ≤ cur.length + l.length := by
  intro l
  induction l with
  | nil => intro cur; rw [wordsF]; split <;> simp
  | cons b t ih =>
    intro cur
    rw [wordsF]
    split
    · obtain ⟨h1, h2⟩ := ih []
      split
      · refine ⟨by simp; omega, fun x hx => ?_⟩
        have := h2 x hx
        simp at this ⊢; omega
      · refine ⟨by simp; omega, fun x hx => ?_⟩
        rw [List.mem_cons] at hx
        rcases hx with rfl | hx
        · simp
        · have := h2 x hx
          simp at this ⊢; omega
    · obtain ⟨h1, h2⟩ := ih (cur ++ [b])
      refine ⟨by simp; omega, fun x hx => ?_⟩
      have := h2 x hx
      simp at this ⊢; omega
/-- A unit tells a byte of ASCII just where one stands. -/
theorem ascii_byte (m : List UInt8) (c : Nat) (hc : c < 128) : (dec m).1 = c ∧ m ≠ [] ↔ byt m 0 = c ∧ m ≠ [] := by
  constructor
  · rintro ⟨h, hne⟩
    refine ⟨?_, hne⟩
    cases hbad : bad m with
    | true =>
      rw [dec_bad hbad] at h
      simp only [] at h
      omega
    | false =>
      have he := encR_dec m hne hbad
      rw [h] at he
      have hw := dec_w_pos m
      have h1 : Lib.encodeRune (c : Int) = [c.toUInt8] := by
        unfold Lib.encodeRune
        rw [Lib.encodeRuneZ_one (by omega) (by omega)]
        simp
      have h2 : byt (m.take (dec m).2) 0 = byt m 0 := by
        simp only [byt]
        cases m with
        | nil => exact absurd rfl hne
        | cons a t =>
          obtain ⟨n, hn⟩ : ∃ n, (dec (a :: t)).2 = n + 1 := ⟨(dec (a :: t)).2 - 1, by omega⟩
          rw [hn]; rfl
      rw [← h2, ← he, h1]
      simp [byt]
      omega
  · rintro ⟨h, hne⟩
    refine ⟨?_, hne⟩
    rw [dec_one m (by omega), h]
end U
end Go.Proofs.YtjfgcbikdibjeaaGreatDoor
