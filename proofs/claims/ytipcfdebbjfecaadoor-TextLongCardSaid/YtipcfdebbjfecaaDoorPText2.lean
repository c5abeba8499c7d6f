/- Plain laws on texts that are clean. No program in sight. -/
import Derived.Test.YtipcfdebbjfecaaDoorPText
namespace Go.Proofs.YtipcfdebbjfecaaDoor
namespace U
open Go

/-- Nothing stands in it that may not. -/
def Fine (l : List UInt8) : Prop := wrong l = -1
theorem fine_at {l : List UInt8} (h : Fine l) (d : Nat) : wrongOf (units d l) = -1 := by
  rw [wrong_shift, h]; rfl
theorem fine_of {l : List UInt8} {d : Nat} (h : wrongOf (units d l) = -1) : Fine l := by
  rw [wrong_shift] at h
  have := wrong_ge l
  unfold Fine
  split at h <;> omega
theorem fine_nil : Fine [] := rfl
theorem wrongU_pos (u : Nat × Nat × Nat) (p : Nat) : wrongU (p, u.2) = wrongU u := rfl
/-- A text's first unit, and what stands behind it. -/
theorem fine_cons {l : List UInt8} (hne : l ≠ []) : Fine l ↔ (wrongU (0, dec l) = false ∧ Fine (l.drop (dec l).2)) := by
  constructor
  · intro h
    have h1 : wrongOf (units 0 l) = -1 := h
    rw [units_cons 0 l hne] at h1
    cases hu : wrongU (0, dec l) with
    | true =>
      rw [wrongOf_yes _ _ hu] at h1
      simp only [] at h1
      omega
    | false =>
      rw [wrongOf_no _ _ hu] at h1
      exact ⟨rfl, fine_of h1⟩
  · rintro ⟨h1, h2⟩
    show wrongOf (units 0 l) = -1
    rw [units_cons 0 l hne, wrongOf_no _ _ h1]
    exact fine_at h2 _
theorem fine_good {l : List UInt8} (h : wrongU (0, dec l) = false) : bad l = false := by
  cases hb : bad l with
  | false => rfl
  | true =>
    have : (dec l).1 == 65533 && (dec l).2 == 1 := hb
    simp [wrongU, this] at h
/-- Two fine texts, joined. -/
theorem fine_append (f : Nat) : ∀ {a b : List UInt8}, a.length ≤ f → Fine a → Fine b → Fine (a ++ b) := by
  induction f with
  | zero =>
    intro a b hf _ hb
    have : a = [] := by cases a <;> simp_all
    subst this
    exact hb
  | succ f ih =>
    intro a b hf ha hb
    by_cases hne : a = []
    · subst hne; exact hb
    obtain ⟨h1, h2⟩ := (fine_cons hne).1 ha
    have hd := dec_append a b hne (fine_good h1)
    have hw1 := dec_w_pos a
    have hw2 := dec_w_le a hne
    refine (fine_cons (by simp [hne])).2 ⟨by rw [hd]; exact h1, ?_⟩
    rw [hd, List.drop_append_of_le_length hw2]
    exact ih (by rw [List.length_drop]; omega) h2 hb
theorem fine_byte {c : UInt8} (h : c = 10 ∨ (32 ≤ c.toNat ∧ c.toNat ≤ 126) ∨ c = 13) {l : List UInt8} (hl : Fine l) : Fine (c :: l) := by
  have hc : c.toNat < 128 := by rcases h with rfl | h | rfl <;> first | omega | decide
  have hd : dec (c :: l) = (c.toNat, 1) := dec_byte _ _ hc (byt_zero c l)
  refine (fine_cons (by simp)).2 ⟨?_, by rw [hd]; exact hl⟩
  rw [hd]
  rcases h with rfl | h | rfl
  · decide
  · have h1 : printable (c.toNat : Int) = true := by
      unfold printable
      rw [decide_eq_true_eq]
      omega
    have h2 : (c.toNat == 65533) = false := by rw [beq_eq_false_iff_ne]; omega
    simp [wrongU, h1, h2]
  · decide

/-- A unit of ASCII stands for its byte. -/
theorem unit_byte {l : List UInt8} (c : Nat) (hc : c < 128) (h : byt l 0 = c) : (dec l).2 = 1 := by rw [dec_byte l c hc h]
/-- A fine text, cleaned, is fine. -/
theorem fine_norm (f : Nat) : ∀ {l : List UInt8}, l.length ≤ f → Fine l → Fine (norm l) := by
  induction f with
  | zero =>
    intro l hf _
    have : l = [] := by cases l <;> simp_all
    subst this
    exact fine_nil
  | succ f ih =>
    intro l hf h
    by_cases hne : l = []
    · subst hne; exact fine_nil
    have hp : 0 < l.length := List.length_pos_iff.2 hne
    obtain ⟨h1, h2⟩ := (fine_cons hne).1 h
    have hw1 := dec_w_pos l
    have hw2 := dec_w_le l hne
    by_cases h13 : byt l 0 = 13
    · have hn1 := unit_byte 13 (by omega) h13
      rw [hn1] at h2
      by_cases hlf : 0 + 1 < l.length ∧ byt l (0 + 1) = 10
      · have e := norm_crlf hlf.1 h13 hlf.2
        rw [List.drop_zero] at e
        rw [e]
        have hne2 : l.drop 1 ≠ [] := drop_ne' hlf.1
        have hb2 : byt (l.drop 1) 0 = 10 := by rw [byt_drop]; exact hlf.2
        obtain ⟨_, h4⟩ := (fine_cons hne2).1 h2
        rw [unit_byte 10 (by omega) hb2, List.drop_drop] at h4
        exact fine_byte (.inl rfl) (ih (by rw [List.length_drop]; omega) h4)
      · have e := norm_cr hp h13 hlf
        rw [List.drop_zero] at e
        rw [e]
        exact fine_byte (.inl rfl) (ih (by rw [List.length_drop]; omega) h2)
    · have e := norm_unit hp h13 (n := (dec l).2) (by rw [List.drop_zero])
      rw [List.drop_zero, Nat.zero_add] at e
      rw [e]
      have hne3 : l.take (dec l).2 ≠ [] := by
        intro hh
        have := congrArg List.length hh
        rw [List.length_take, List.length_nil] at this
        omega
      have hdt := dec_take l (dec l).2 (Nat.le_refl _) hne
      refine fine_append l.length (by rw [List.length_take]; omega) ((fine_cons hne3).2 ⟨by rw [hdt]; exact h1, ?_⟩) (ih (by rw [List.length_drop]; omega) h2)
      rw [hdt, List.drop_eq_nil_of_le (by rw [List.length_take]; omega)]
      exact fine_nil

theorem norm_no13 (f : Nat) : ∀ {l : List UInt8}, l.length ≤ f → ∀ x ∈ norm l, x ≠ 13 := by
  have hfeed : ∀ b : UInt8, feed b ≠ 13 := by
    intro b
    unfold feed
    split
    · decide
    · assumption
  induction f with
  | zero =>
    intro l hf x hx
    have : l = [] := by cases l <;> simp_all
    subst this
    simp [norm] at hx
  | succ f ih =>
    intro l hf x hx
    match l, hf with
    | [], _ => simp [norm] at hx
    | [b], _ =>
      simp only [norm, List.mem_singleton] at hx
      subst hx
      exact hfeed b
    | b :: c :: t, hf =>
      rw [norm] at hx
      split at hx
      · rw [List.mem_cons] at hx
        rcases hx with rfl | hx
        · decide
        · exact ih (by simp at hf; omega) x hx
      · rw [List.mem_cons] at hx
        rcases hx with rfl | hx
        · exact hfeed b
        · exact ih (by simpa using hf) x hx
theorem norm_self {l : List UInt8} (h : ∀ x ∈ l, x ≠ 13) : norm l = l := by
  have := norm_no [] l h
  simpa [norm] using this
theorem dec_bom (t : List UInt8) : dec (239 :: 187 :: 191 :: t) = (65279, 3) := by
  have := dec_enc 65279 t
  have he : Lib.encodeRune 65279 = [239, 187, 191] := by decide
  rw [he] at this
  exact this
/-- No fine text begins with the mark. -/
theorem fine_trim {l : List UInt8} (h : Fine l) : Lib.trimPrefix l bom = l := by
  unfold Lib.trimPrefix
  cases hp : Lib.hasPrefix l bom with
  | false => rfl
  | true =>
    exfalso
    obtain ⟨t, rfl⟩ : ∃ t, l = bom ++ t := by
      unfold Lib.hasPrefix at hp
      obtain ⟨t, ht⟩ := List.isPrefixOf_iff_prefix.1 hp
      exact ⟨t, ht.symm⟩
    have h1 := ((fine_cons (l := bom ++ t) (by simp [bom])).1 h).1
    rw [show bom ++ t = 239 :: 187 :: 191 :: t from rfl, dec_bom] at h1
    exact absurd h1 (by decide)
/-- What is clean is clean again. -/
theorem clean_again {l : List UInt8} (h : (clean l).2.2 = 0) : (∀ x ∈ (clean l).1, x ≠ 13) ∧ clean (clean l).1 = ((clean l).1, 0, 0) ∧ (clean l).1.length ≤ l.length := by
  unfold clean at h
  by_cases hl : 65536 < l.length
  · rw [if_pos hl] at h; simp at h
  rw [if_neg hl] at h
  by_cases hw : 0 ≤ wrong (Lib.trimPrefix l bom)
  · rw [if_pos hw] at h; simp at h
  have hf : Fine (Lib.trimPrefix l bom) := by have := wrong_ge (Lib.trimPrefix l bom); unfold Fine; omega
  have e : clean l = (norm (Lib.trimPrefix l bom), 0, 0) := by rw [clean, if_neg hl, if_neg hw]
  rw [e]
  have ht := trim_le l
  generalize Lib.trimPrefix l bom = t at *
  have h1 := norm_no13 t.length (l := t) (Nat.le_refl _)
  have h2 := fine_norm t.length (Nat.le_refl _) hf
  have h3 := norm_le t.length t (Nat.le_refl _)
  refine ⟨h1, ?_, by simp only []; omega⟩
  simp only []
  rw [clean, if_neg (by omega), fine_trim h2, if_neg (by rw [show wrong (norm t) = -1 from h2]; omega), norm_self h1]
theorem clean_err {l : List UInt8} (h : (clean l).2.2 ≠ 0) : (clean l).1 = [] := by
  unfold clean at h ⊢
  split
  · rfl
  · rename_i hl
    rw [if_neg hl] at h
    split
    · rfl
    · rename_i hw
      rw [if_neg hw] at h
      exact absurd rfl h
end U
end Go.Proofs.YtipcfdebbjfecaaDoor
