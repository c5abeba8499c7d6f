/- Plain laws on rows by their ends, and on long texts. No program in sight. -/
import Derived.Test.YtipcfdebbjfecaaDoorPText2
namespace Go.Proofs.YtipcfdebbjfecaaDoor
namespace U
open Go

/-- How a row ends. -/
def endOf (k : Nat) : List UInt8 := if k = 0 then [10] else if k = 1 then [13, 10] else [13]
theorem norm_end (k : Nat) (m : List UInt8) (h : ∀ c t, m = c :: t → c ≠ 10) : norm (endOf k ++ m) = 10 :: norm m := by
  unfold endOf
  split
  · exact norm_cons (by decide) m
  · split
    · show norm (13 :: 10 :: m) = _
      rw [norm, if_pos ⟨rfl, rfl⟩]
    · cases m with
      | nil => rfl
      | cons c t =>
        show norm (13 :: c :: t) = _
        rw [norm, if_neg (fun hh => h c t rfl hh.2)]
        rfl
theorem fine_end (k : Nat) {m : List UInt8} (h : Fine m) : Fine (endOf k ++ m) := by
  unfold endOf
  split
  · exact fine_byte (.inl rfl) h
  · split
    · exact fine_byte (.inr (.inr rfl)) (fine_byte (.inl rfl) h)
    · exact fine_byte (.inr (.inr rfl)) h
/-- Rows of words by numbers, and how each ends. -/
def brk (f : Int → List UInt8) (ps : List (Int × Nat)) : List UInt8 := ps.flatMap fun p => f p.1 ++ endOf p.2
def brkN (f : Int → List UInt8) (ps : List (Int × Nat)) : List UInt8 := ps.flatMap fun p => f p.1 ++ [10]
theorem brk_snoc (f : Int → List UInt8) (ps : List (Int × Nat)) (p : Int × Nat) : brk f (ps ++ [p]) = brk f ps ++ f p.1 ++ endOf p.2 := by simp [brk]
theorem brkN_snoc (f : Int → List UInt8) (ps : List (Int × Nat)) (p : Int × Nat) : brkN f (ps ++ [p]) = brkN f ps ++ f p.1 ++ [10] := by simp [brkN]
theorem brk_cons (f : Int → List UInt8) (ps : List (Int × Nat)) (p : Int × Nat) : brk f (p :: ps) = f p.1 ++ (endOf p.2 ++ brk f ps) := by simp [brk]
theorem brkN_cons (f : Int → List UInt8) (ps : List (Int × Nat)) (p : Int × Nat) : brkN f (p :: ps) = f p.1 ++ (10 :: brkN f ps) := by simp [brkN]
theorem norm_brk (f : Int → List UInt8) (hf : ∀ n, f n ≠ [] ∧ ∀ x ∈ f n, x ≠ 13 ∧ x ≠ 10) : ∀ ps, norm (brk f ps) = brkN f ps := by
  intro ps
  induction ps with
  | nil => rfl
  | cons p ps ih =>
    rw [brk_cons, brkN_cons, norm_no _ _ (fun x hx => ((hf p.1).2 x hx).1), norm_end, ih]
    intro c t hc
    cases ps with
    | nil => simp [brk] at hc
    | cons q qs =>
      rw [brk_cons] at hc
      obtain ⟨h1, h2⟩ := hf q.1
      cases hq : f q.1 with
      | nil => exact absurd hq h1
      | cons a u =>
        rw [hq] at hc
        injection hc with h3 _
        subst h3
        exact (h2 a (by rw [hq]; simp)).2
theorem fine_brk (f : Int → List UInt8) (hf : ∀ n, Fine (f n)) : ∀ ps, Fine (brk f ps) := by
  intro ps
  induction ps with
  | nil => exact fine_nil
  | cons p ps ih =>
    rw [brk_cons]
    exact fine_append _ (Nat.le_refl _) (hf p.1) (fine_end p.2 ih)
theorem trim_bom (m : List UInt8) : Lib.trimPrefix (bom ++ m) bom = m := by
  have h : Lib.hasPrefix (bom ++ m) bom = true := List.isPrefixOf_iff_prefix.2 ⟨m, rfl⟩
  rw [Lib.trimPrefix, if_pos h]
  rfl
theorem clean_fine {l t : List UInt8} (hl : ¬ 65536 < l.length) (ht : Lib.trimPrefix l bom = t) (hf : Fine t) : clean l = (norm t, 0, 0) := by
  rw [clean, if_neg hl, ht, if_neg (by rw [show wrong t = -1 from hf]; omega)]
theorem clean_brk (f : Int → List UInt8) (hf : ∀ n, f n ≠ [] ∧ ∀ x ∈ f n, x ≠ 13 ∧ x ≠ 10) (hg : ∀ n, Fine (f n)) (ps : List (Int × Nat)) (hl : (brk f ps).length ≤ 60000) (mark : Bool) :
    clean ((if mark then bom else []) ++ brk f ps) = (brkN f ps, 0, 0) := by
  have h1 := fine_brk f hg ps
  rw [← norm_brk f hf ps]
  cases mark with
  | true => exact clean_fine (by rw [if_pos rfl, List.length_append]; show ¬ 65536 < 3 + _; omega) (trim_bom _) h1
  | false => exact clean_fine (by simp; omega) (fine_trim h1) h1

theorem fine_rep (k : Nat) : Fine (List.replicate k (97 : UInt8)) := by
  induction k with
  | zero => exact fine_nil
  | succ k ih => exact fine_byte (.inr (.inl (by decide))) ih
theorem wrong_app (f : Nat) : ∀ {a b : List UInt8}, a.length ≤ f → Fine a → wrong (a ++ b) = if 0 ≤ wrong b then wrong b + a.length else -1 := by
  induction f with
  | zero =>
    intro a b hf _
    have : a = [] := by cases a <;> simp_all
    subst this
    have := wrong_ge b
    simp only [List.nil_append, List.length_nil]
    split <;> omega
  | succ f ih =>
    intro a b hf ha
    by_cases hne : a = []
    · subst hne
      have := wrong_ge b
      simp only [List.nil_append, List.length_nil]
      split <;> omega
    obtain ⟨h1, h2⟩ := (fine_cons hne).1 ha
    have hd := dec_append a b hne (fine_good h1)
    have hw1 := dec_w_pos a
    have hw2 := dec_w_le a hne
    have h3 := ih (a := a.drop (dec a).2) (b := b) (by rw [List.length_drop]; omega) h2
    rw [List.length_drop] at h3
    show wrongOf (units 0 (a ++ b)) = _
    rw [units_cons 0 _ (by simp [hne]), hd, wrongOf_no _ _ h1, List.drop_append_of_le_length hw2, wrong_shift, h3]
    by_cases h4 : 0 ≤ wrong b
    · rw [if_pos h4, if_pos (by omega)]; omega
    · rw [if_neg h4, if_neg (by omega), if_neg h4]
theorem wrong_one (m : List UInt8) : wrong (1 :: m) = 0 := by
  have hd : dec (1 :: m) = (1, 1) := dec_byte _ 1 (by omega) (byt_zero 1 m)
  show wrongOf (units 0 (1 :: m)) = 0
  rw [units_cons 0 _ (by simp), hd, wrongOf_yes _ _ (show wrongU (0, 1, 1) = true by decide)]
  rfl
theorem trim_a (m : List UInt8) : Lib.trimPrefix (97 :: m) bom = 97 :: m := by
  have h : Lib.hasPrefix (97 :: m) bom = false := rfl
  rw [Lib.trimPrefix, if_neg (by rw [h]; decide)]
theorem clean_long {k : Nat} (h0 : 1 ≤ k) (h1 : k ≤ 65536) : clean (List.replicate k 97) = (List.replicate k 97, 0, 0) := by
  have ht : Lib.trimPrefix (List.replicate k 97) bom = List.replicate k 97 := by
    obtain ⟨j, rfl⟩ : ∃ j, k = j + 1 := ⟨k - 1, by omega⟩
    exact trim_a _
  rw [clean_fine (by rw [List.length_replicate]; omega) ht (fine_rep k), norm_self (fun x hx => by rw [List.eq_of_mem_replicate hx]; decide)]
theorem clean_over {l : List UInt8} (h : 65536 < l.length) : clean l = ([], 0, 2) := by rw [clean, if_pos h]
theorem clean_bad {k j : Nat} (h0 : 1 ≤ k) (h1 : k + 1 + j ≤ 65536) : clean (List.replicate k 97 ++ 1 :: List.replicate j 97) = ([], (k : Int), 3) := by
  have hl : (List.replicate k (97 : UInt8) ++ 1 :: List.replicate j 97).length = k + 1 + j := by simp; omega
  have ht : Lib.trimPrefix (List.replicate k 97 ++ 1 :: List.replicate j 97) bom = List.replicate k 97 ++ 1 :: List.replicate j 97 := by
    obtain ⟨i, rfl⟩ : ∃ i, k = i + 1 := ⟨k - 1, by omega⟩
    exact trim_a _
  have hw : wrong (List.replicate k 97 ++ 1 :: List.replicate j 97) = k := by
    rw [wrong_app k (by simp) (fine_rep k), wrong_one, if_pos (by omega), List.length_replicate]; omega
  rw [clean, if_neg (by omega), ht, hw, if_pos (by omega)]
  congr 2
  omega
end U
end Go.Proofs.YtipcfdebbjfecaaDoor
