/- Plain laws: cut at line feeds, as the library does it; is a byte in a text. -/
import Derived.Test.YtjfgcbikdibjeaaGreatDoorPPick
import Derived.Lib.SplitLaws
import Derived.Lib.IndexMore
namespace Go.Proofs.YtjfgcbikdibjeaaGreatDoor
namespace U
open Go

theorem index_byte_cons (b c : UInt8) (l : List UInt8) (h : b ≠ c) : Lib.index (b :: l) [c] = if Lib.index l [c] = -1 then -1 else Lib.index l [c] + 1 := by
  have hp : ([c] : List UInt8).isPrefixOf (b :: l) = false := by simp [List.isPrefixOf, Ne.symm h]
  rw [Lib.index, hp]
  simp
theorem index_byte_hit (c : UInt8) (l : List UInt8) : Lib.index (c :: l) [c] = 0 := by
  rw [Lib.index]
  simp [List.isPrefixOf]
theorem contains_byte (c : UInt8) : ∀ l : List UInt8, Lib.contains l [c] = l.any fun b => b == c := by
  intro l
  unfold Lib.contains
  induction l with
  | nil => rfl
  | cons b t ih =>
    by_cases h : b = c
    · subst h
      rw [index_byte_hit]
      simp
    · rw [index_byte_cons b c t h, List.any_cons, ← ih, show (b == c) = false by simpa using h, Bool.false_or]
      have := Lib.index_ge t [c]
      split
      · rename_i h1; rw [h1]
      · rw [Bool.eq_iff_iff, decide_eq_true_iff, decide_eq_true_iff]; omega
theorem splitK_cons (b c : UInt8) (h : b ≠ c) : ∀ (k : Nat) (t : List UInt8), ∃ x xs, Lib.splitK [c] 0 k t = x :: xs ∧ Lib.splitK [c] 0 k (b :: t) = (b :: x) :: xs := by
  intro k t
  cases k with
  | zero => exact ⟨t, [], rfl, rfl⟩
  | succ k =>
    have hi := index_byte_cons b c t h
    rw [Lib.splitK, Lib.splitK]
    by_cases hm : Lib.index t [c] = -1
    · rw [if_pos hm] at hi
      rw [if_pos (by rw [hm]; rfl), if_pos (by rw [hi]; rfl)]
      exact ⟨t, [], rfl, rfl⟩
    · rw [if_neg hm] at hi
      have hge := Lib.index_ge t [c]
      obtain ⟨i, hix⟩ : ∃ i : Nat, Lib.index t [c] = i := ⟨(Lib.index t [c]).toNat, by omega⟩
      rw [hix] at hi
      rw [if_neg (by rw [hix]; simp), if_neg (by rw [hi]; simp; omega), hix, hi]
      refine ⟨_, _, rfl, ?_⟩
      rw [show ((i : Int) + 1).toNat = i + 1 by omega, show ((i : Int)).toNat = i from rfl]
      simp
theorem split_feed : ∀ (l cur : List UInt8), ∃ x xs, Lib.split l [10] = x :: xs ∧ splitB cur l = (cur ++ x) :: xs := by
  intro l
  induction l with
  | nil => intro cur; exact ⟨[], [], rfl, by simp [splitB]⟩
  | cons b t ih =>
    intro cur
    by_cases h : b = 10
    · subst h
      obtain ⟨x, xs, h1, h2⟩ := ih []
      refine ⟨[], x :: xs, ?_, ?_⟩
      · unfold Lib.split at h1 ⊢
        rw [Lib.count_cons_eq, Nat.add_comm, Lib.splitK, index_byte_hit, if_neg (by decide)]
        simp only [Int.toNat_zero, Nat.zero_add, List.length_singleton, List.drop_succ_cons, List.drop_zero, List.take_zero]
        rw [h1]
      · rw [splitB, if_pos rfl, h2]
        simp
    · obtain ⟨x, xs, h1, h2⟩ := ih (cur ++ [b])
      obtain ⟨y, ys, h3, h4⟩ := splitK_cons b 10 h (Lib.count t [10]) t
      unfold Lib.split at h1 ⊢
      rw [h1] at h3
      injection h3 with h5 h6
      subst h5 h6
      refine ⟨b :: x, xs, ?_, ?_⟩
      · rw [Lib.count_cons_ne b 10 t h]; exact h4
      · rw [splitB, if_neg h, h2]
        simp
theorem split_is (l : List UInt8) : Lib.split l [10] = splitB [] l := by
  obtain ⟨x, xs, h1, h2⟩ := split_feed l []
  rw [h1, h2]
  rfl
theorem trim_is (l : List UInt8) : Lib.trimSuffix l [10] = trimLF l := by
  unfold Lib.trimSuffix trimLF Lib.hasSuffix
  rcases List.eq_nil_or_concat l with rfl | ⟨m, b, rfl⟩
  · rfl
  · have h1 : (m ++ [b]).getLast? = some b := by simp
    rw [List.concat_eq_append, h1]
    by_cases h : b = 10
    · subst h
      have : ([10] : List UInt8).isSuffixOf (m ++ [10]) = true := by rw [List.isSuffixOf_iff_suffix]; exact ⟨m, rfl⟩
      rw [this, if_pos rfl, if_pos rfl]
      simp
    · have : ([10] : List UInt8).isSuffixOf (m ++ [b]) = false := by
        rw [Bool.eq_false_iff]
        intro hh
        obtain ⟨t, ht⟩ := List.isSuffixOf_iff_suffix.1 hh
        have := congrArg List.getLast? ht
        simp at this
        exact h this.symm
      rw [this, if_neg (by decide), if_neg (by simpa using h)]
theorem splitB_len : ∀ (l cur : List UInt8), (splitB cur l).length ≤ l.length + 1 ∧ ∀ x ∈ splitB cur l, x.length ≤ cur.length + l.length := by
  intro l
  induction l with
  | nil => intro cur; exact ⟨by simp [splitB], fun x hx => by obtain rfl := List.mem_singleton.1 hx; simp⟩
  | cons b t ih =>
    intro cur
    rw [splitB]
    split
    · obtain ⟨h1, h2⟩ := ih []
      refine ⟨by simp; omega, fun x hx => ?_⟩
      rcases List.mem_cons.1 hx with rfl | hx
      · simp
      · have := h2 x hx; simp at this ⊢; omega
    · obtain ⟨h1, h2⟩ := ih (cur ++ [b])
      refine ⟨by simp; omega, fun x hx => ?_⟩
      have := h2 x hx; simp at this ⊢; omega
theorem splitB_ne (l cur : List UInt8) : splitB cur l ≠ [] := by
  obtain ⟨x, xs, _, h⟩ := split_feed l cur
  rw [h]
  simp
theorem trimLF_len (l : List UInt8) : (trimLF l).length ≤ l.length := by
  unfold trimLF
  split
  · rw [List.length_dropLast]; omega
  · exact Nat.le_refl _
end U
end Go.Proofs.YtjfgcbikdibjeaaGreatDoor
