/- Directives (chapter 10): words, comments. No program in sight. -/
import Derived.Test.YtjnmgmepolpcdaaDoorPSize
import Derived.Test.YtjnmgmepolpcdaaDoorPText
import Derived.Lib.FieldsP
namespace Go.Proofs.YtjnmgmepolpcdaaDoor
namespace U
open Go

def piecesOf (l : List UInt8) (xs : List (Nat × Nat)) : List (List UInt8) := xs.map fun x => (l.drop x.1).take (x.2 - x.1)
theorem piecesOf_append (l : List UInt8) (xs ys : List (Nat × Nat)) : piecesOf l (xs ++ ys) = piecesOf l xs ++ piecesOf l ys := by simp [piecesOf]
def curOf (l : List UInt8) (pos : Nat) : Option Nat → List UInt8
  | none => []
  | some a => (l.drop a).take (pos - a)
theorem whN_byte {m : List UInt8} (hne : m ≠ []) : whN (dec m).1 = whN (byt m 0) := by
  have h32 := ascii_byte m 32 (by omega)
  have h9 := ascii_byte m 9 (by omega)
  unfold whN
  rw [Bool.eq_iff_iff, decide_eq_true_eq, decide_eq_true_eq]
  constructor
  · rintro (h | h)
    · exact .inl (h32.1 ⟨h, hne⟩).1
    · exact .inr (h9.1 ⟨h, hne⟩).1
  · rintro (h | h)
    · exact .inl (h32.2 ⟨h, hne⟩).1
    · exact .inr (h9.2 ⟨h, hne⟩).1
theorem unit_white {m : List UInt8} (h : whN (byt m 0) = true) : (dec m).2 = 1 := by
  have : byt m 0 < 128 := by unfold whN at h; rw [decide_eq_true_eq] at h; omega
  rw [dec_one m this]
theorem unit_black {m : List UInt8} (hne : m ≠ []) (h : whN (byt m 0) = false) : ∀ x ∈ m.take (dec m).2, wh x = false := by
  have h2 : byt m 0 ≠ 32 ∧ byt m 0 ≠ 9 := by unfold whN at h; rw [decide_eq_false_iff_not] at h; omega
  have u1 := unit_no m 32 (by decide) hne h2.1
  have u2 := unit_no m 9 (by decide) hne h2.2
  intro x hx
  have a1 := u1 x hx
  have a2 := u2 x hx
  unfold wh whN
  rw [decide_eq_false_iff_not]
  rintro (hh | hh)
  · exact a1 (UInt8.toNat.inj hh)
  · exact a2 (UInt8.toNat.inj hh)
theorem spans_words (l : List UInt8) : ∀ (f pos : Nat) (st : Option Nat) (acc : List (Nat × Nat)), l.length - pos ≤ f → pos ≤ l.length → (∀ a, st = some a → a < pos) →
    piecesOf l (Lib.closeSpans ⟨l.toArray⟩ (Lib.spansFromP whN ⟨l.toArray⟩ f pos st acc)) = piecesOf l acc ++ wordsF (curOf l pos st) (l.drop pos) := by
  have hend : ∀ (pos : Nat) (st : Option Nat) (acc : List (Nat × Nat)), pos = l.length → (∀ a, st = some a → a < pos) →
      piecesOf l (Lib.closeSpans ⟨l.toArray⟩ (acc, st)) = piecesOf l acc ++ wordsF (curOf l pos st) (l.drop pos) := by
    intro pos st acc hp hst
    subst hp
    rw [List.drop_eq_nil_of_le (Nat.le_refl _), wordsF]
    cases st with
    | none => simp [Lib.closeSpans, curOf]
    | some a =>
      have ha := hst a rfl
      have hc : (curOf l l.length (some a)).isEmpty = false := by
        cases hq : curOf l l.length (some a) with
        | nil =>
          have := congrArg List.length hq
          simp [curOf] at this
          omega
        | cons b t => rfl
      rw [hc]
      simp [Lib.closeSpans, piecesOf, curOf, size_mk]
  intro f
  induction f with
  | zero =>
    intro pos st acc hf hp hst
    exact hend pos st acc (by omega) hst
  | succ f ih =>
    intro pos st acc hf hp hst
    by_cases hlt : pos < l.length
    · have hne : l.drop pos ≠ [] := drop_ne' hlt
      have hw1 := dec_w_pos (l.drop pos)
      have hw2 := dec_w_le (l.drop pos) hne
      rw [List.length_drop] at hw2
      have hwb := whN_byte hne
      unfold Lib.spansFromP
      rw [if_pos (show pos < (⟨l.toArray⟩ : ByteArray).size from hlt), decode_mk]
      cases hq : whN (byt (l.drop pos) 0) with
      | true =>
        rw [hq] at hwb
        have hn := unit_white hq
        rw [if_pos hwb, hn]
        have hd : l.drop pos = l[pos]'hlt :: l.drop (pos + 1) := List.drop_eq_getElem_cons hlt
        have hb : wh (l[pos]'hlt) = true := by
          unfold wh
          rw [byt_get l pos hlt]
          rw [byt_drop, Nat.add_zero] at hq
          exact hq
        cases st with
        | none =>
          simp only []
          rw [ih (pos + 1) none acc (by omega) (by omega) (fun a h => by cases h), hd, wordsF_yes _ _ _ hb]
          simp [curOf]
        | some a =>
          have ha := hst a rfl
          have hc : (curOf l pos (some a)).isEmpty = false := by
            cases hq : curOf l pos (some a) with
            | nil =>
              have := congrArg List.length hq
              simp [curOf] at this
              omega
            | cons b t => rfl
          simp only []
          rw [ih (pos + 1) none (acc ++ [(a, pos)]) (by omega) (by omega) (fun a h => by cases h), hd, wordsF_yes _ _ _ hb, hc, piecesOf_append]
          simp [curOf, piecesOf]
      | false =>
        rw [hq] at hwb
        have hu := unit_black hne hq
        rw [if_neg (by rw [hwb]; decide)]
        generalize (dec (l.drop pos)).2 = n at *
        have hsp : l.drop pos = (l.drop pos).take n ++ l.drop (pos + n) := by rw [← List.drop_drop, List.take_append_drop]
        have key : ∀ a, a ≤ pos → curOf l (pos + n) (some a) = (l.drop a).take (pos - a) ++ (l.drop pos).take n := by
          intro a ha
          show (l.drop a).take (pos + n - a) = _
          rw [show pos + n - a = (pos - a) + n by omega, List.take_add, List.drop_drop, show a + (pos - a) = pos by omega]
        cases st with
        | none =>
          simp only []
          rw [ih (pos + n) (some pos) acc (by omega) (by omega) (fun a h => by cases h; omega), key pos (Nat.le_refl _), Nat.sub_self, List.take_zero, List.nil_append]
          conv => rhs; rw [hsp]
          rw [wordsF_no _ hu]
          simp [curOf]
        | some a =>
          have ha := hst a rfl
          simp only []
          rw [ih (pos + n) (some a) acc (by omega) (by omega) (fun b h => by cases h; omega), key a (by omega)]
          conv => rhs; rw [hsp]
          rw [wordsF_no _ hu]
          rfl
    · rw [Lib.spansFromP_end whN ⟨l.toArray⟩ (f + 1) pos st acc hlt]
      exact hend pos st acc (by omega) hst
theorem fields_words (l : List UInt8) : Lib.goFieldsP whN ⟨l.toArray⟩ = (wordsM l).map fun x => (⟨x.toArray⟩ : ByteArray) := by
  have h := spans_words l l.length 0 none [] (by omega) (by omega) (fun a h => by cases h)
  have h2 : piecesOf l (Lib.spansOfP whN ⟨l.toArray⟩) = wordsM l := by
    unfold Lib.spansOfP
    rw [size_mk]
    exact h
  unfold Lib.goFieldsP
  rw [← h2, piecesOf, List.map_map]
  apply List.map_congr_left
  intro x _
  exact Lib.extract_eq _ _ _

/-- Where a comment begins, at a place or behind it. -/
def noteAt (l : List UInt8) (i : Nat) : Prop := 1 ≤ i ∧ i < l.length ∧ byt l i = 35 ∧ whN (byt l (i - 1)) = true
instance (l : List UInt8) (i : Nat) : Decidable (noteAt l i) := by unfold noteAt; infer_instance
def commentF (l : List UInt8) : Nat → Nat → Int
  | 0, _ => -1
  | f + 1, i => if noteAt l i then i else commentF l f (i + 1)
def commentM (l : List UInt8) : Int := commentF l l.length 0
theorem commentF_skip (l : List UInt8) (f : Nat) : ∀ (i k : Nat), (∀ j, i ≤ j → j < i + k → ¬ noteAt l j) → k ≤ f → commentF l f i = commentF l (f - k) (i + k) := by
  induction f with
  | zero =>
    intro i k _ hk
    obtain rfl : k = 0 := by omega
    rfl
  | succ f ih =>
    intro i k h hk
    cases k with
    | zero => rfl
    | succ k =>
      rw [commentF, if_neg (h i (Nat.le_refl _) (by omega)), ih (i + 1) k (fun j h1 h2 => h j (by omega) (by omega)) (by omega)]
      rw [show f + 1 - (k + 1) = f - k by omega, show i + 1 + k = i + (k + 1) by omega]
theorem comment_at {l : List UInt8} {i : Nat} (h : ∀ j, j < i → ¬ noteAt l j) (hi : noteAt l i) : commentM l = i := by
  have hlt := hi.2.1
  unfold commentM
  rw [commentF_skip l l.length 0 i (fun j _ hj => h j (by omega)) (by omega)]
  obtain ⟨f, hf⟩ : ∃ f, l.length - i = f + 1 := ⟨l.length - i - 1, by omega⟩
  rw [hf, Nat.zero_add, commentF, if_pos hi]
theorem comment_no {l : List UInt8} (h : ∀ j, j < l.length → ¬ noteAt l j) : commentM l = -1 := by
  unfold commentM
  rw [commentF_skip l l.length 0 l.length (fun j _ hj => h j (by omega)) (Nat.le_refl _), Nat.sub_self]
  rfl
theorem comment_range (l : List UInt8) : commentM l = -1 ∨ ∃ i : Nat, commentM l = i ∧ noteAt l i := by
  have key : ∀ (f i : Nat), commentF l f i = -1 ∨ ∃ j : Nat, commentF l f i = j ∧ noteAt l j := by
    intro f
    induction f with
    | zero => intro i; exact .inl rfl
    | succ f ih =>
      intro i
      rw [commentF]
      by_cases h : noteAt l i
      · rw [if_pos h]; exact .inr ⟨i, rfl, h⟩
      · rw [if_neg h]; exact ih (i + 1)
  exact key _ _
end U
end Go.Proofs.YtjnmgmepolpcdaaDoor
