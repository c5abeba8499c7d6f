/- Plain laws on what stands between: the program's passer and the document's answer come to the same. -/
import Derived.Test.YtobojdkloblfbaaDoorPRows
namespace Go.Proofs.YtobojdkloblfbaaDoor
namespace U
open Go

/-- A text without White at its end. -/
def cutW (l : List UInt8) : List UInt8 := (l.reverse.dropWhile wh).reverse
def noteTx (l : List UInt8) (p : Nat) : List UInt8 := cutW ((l.drop (p + 1)).take (rowTo l p - (p + 1)))
def isNote (l : List UInt8) (p : Nat) : Bool := decide (byt l p = 35) && (decide (p = 0) || endsM l (p - 1))
abbrev Notes := List (List UInt8 × Nat)
/-- Rows and comments are passed, from a place on; row: where it stands still at the beginning of a row. -/
def passF (l : List UInt8) (b0 : Nat) (row : Nat → Option Nat) : Nat → Bool → Nat → Notes → Bool → Notes × Bool × Nat × Bool
  | 0, _, p, acc, nr => (acc, nr, p, true)
  | f + 1, true, p, acc, nr => if rowFrom l p = p ∧ (kindM l p = 3 ∨ kindM l p = 4) then (acc, nr, p, true) else passF l b0 row f false p acc nr
  | f + 1, false, p, acc, nr =>
    if l.length ≤ p then (acc, nr, p, true)
    else if whN (byt l p) then passF l b0 row f false (p + 1) acc nr
    else if byt l p = 10 then (match row (p + 1) with
      | some q => (acc, nr, q, false)
      | none => passF l b0 row f true (p + 1) acc nr)
    else if isNote l p then passF l b0 row f false (rowTo l p) (acc ++ [(noteTx l p, aboveM l p)]) (if acc.isEmpty then decide (rowFrom l p < b0) else nr)
    else (acc, nr, p, true)
def need (l : List UInt8) (b : Bool) (p : Nat) : Nat := 2 * (l.length - p) + if b then 2 else 1
theorem note_to {l : List UInt8} {p : Nat} (hl : p < l.length) (h : byt l p ≠ 10) : p < rowTo l p := by
  unfold rowTo
  rw [run_step hl ((notFeed_iff _).2 h)]
  omega
theorem passF_fuel (l : List UInt8) (b0 : Nat) (row : Nat → Option Nat) : ∀ (f g : Nat) (b : Bool) (p : Nat) (acc : Notes) (nr : Bool), need l b p ≤ f → need l b p ≤ g → passF l b0 row f b p acc nr = passF l b0 row g b p acc nr := by
  intro f
  induction f with
  | zero => intro g b p acc nr h; unfold need at h; split at h <;> omega
  | succ f ih =>
    intro g b p acc nr h h'
    cases g with
    | zero => unfold need at h'; split at h' <;> omega
    | succ g =>
      cases b with
      | true =>
        rw [passF, passF]
        split
        · rfl
        · exact ih g false p acc nr (by simp [need] at *; omega) (by simp [need] at *; omega)
      | false =>
        rw [passF, passF]
        split
        · rfl
        · rename_i hl
          have e1 : need l false (p + 1) ≤ f ∧ need l false (p + 1) ≤ g := by simp [need] at *; omega
          have e2 : need l true (p + 1) ≤ f ∧ need l true (p + 1) ≤ g := by simp [need] at *; omega
          split
          · exact ih g _ _ _ _ e1.1 e1.2
          · split
            · split
              · rfl
              · exact ih g _ _ _ _ e2.1 e2.2
            · rename_i h10
              have hr := note_to (by omega) h10
              split
              · exact ih g _ _ _ _ (by simp [need] at *; omega) (by simp [need] at *; omega)
              · rfl
def passR (l : List UInt8) (b0 : Nat) (row : Nat → Option Nat) (b : Bool) (p : Nat) (acc : Notes) (nr : Bool) : Notes × Bool × Nat × Bool := passF l b0 row (need l b p) b p acc nr
theorem passR_beg (l : List UInt8) (b0 : Nat) (row : Nat → Option Nat) (p : Nat) (acc : Notes) (nr : Bool) :
    passR l b0 row true p acc nr = if rowFrom l p = p ∧ (kindM l p = 3 ∨ kindM l p = 4) then (acc, nr, p, true) else passR l b0 row false p acc nr := by
  unfold passR
  rw [show need l true p = need l false p + 1 by simp [need], passF]
theorem passR_in (l : List UInt8) (b0 : Nat) (row : Nat → Option Nat) (p : Nat) (acc : Notes) (nr : Bool) :
    passR l b0 row false p acc nr =
    if l.length ≤ p then (acc, nr, p, true)
    else if whN (byt l p) then passR l b0 row false (p + 1) acc nr
    else if byt l p = 10 then (match row (p + 1) with
      | some q => (acc, nr, q, false)
      | none => passR l b0 row true (p + 1) acc nr)
    else if isNote l p then passR l b0 row false (rowTo l p) (acc ++ [(noteTx l p, aboveM l p)]) (if acc.isEmpty then decide (rowFrom l p < b0) else nr)
    else (acc, nr, p, true) := by
  unfold passR
  rw [show need l false p = 2 * (l.length - p) + 1 by simp [need], passF]
  split
  · rfl
  · rename_i hl
    split
    · exact passF_fuel l b0 row _ _ _ _ _ _ (by simp [need]; omega) (by simp [need])
    · split
      · split
        · rfl
        · exact passF_fuel l b0 row _ _ _ _ _ _ (by simp [need]; omega) (by simp [need])
      · rename_i h10
        have hr := note_to (by omega) h10
        split
        · exact passF_fuel l b0 row _ _ _ _ _ _ (by simp [need]; omega) (by simp [need])
        · rfl

/-- The first tab from a place on, of so many; none: -1. -/
def tabF (l : List UInt8) : Nat → Nat → Int
  | 0, _ => -1
  | k + 1, p => if byt l p = 9 then (p : Int) else tabF l k (p + 1)
def skipM (l : List UInt8) (a : Nat) : Notes × Bool × Int × Int :=
  let r := passR l a (fun _ => none) true a [] false
  let t := tabF l (r.2.2.1 - rowFrom l r.2.2.1) (rowFrom l r.2.2.1)
  if 0 ≤ t ∧ a ≤ rowFrom l r.2.2.1 ∧ kindM l r.2.2.1 = 5 then ([], false, t, 4) else (r.1, r.2.1, r.2.2.1, 0)
/-- Where a row within brackets stands still. -/
def rowW (l : List UInt8) (n : Int) (p : Nat) : Option Nat :=
  if kindM l p = 5 then (if n < (inM l p : Int) then none else some (p + run whN l p)) else if kindM l p = 3 ∨ kindM l p = 4 then some p else none
def withinM (l : List UInt8) (a : Nat) (n : Int) : Notes × Bool × Int × Int :=
  let r := passR l a (rowW l n) true a [] false
  if r.2.2.2 then (r.1, r.2.1, r.2.2.1, 0) else ([], false, r.2.2.1, 5)

/-- The document's answer. -/
def refF (l : List UInt8) (a : Nat) (n : Int) (within : Bool) : Nat → Bool → Nat → Notes → Bool → Notes × Bool × Int × Int
  | 0, _, p, acc, sm => (acc, sm, p, 0)
  | f + 1, met, p, acc, sm =>
    if l.length ≤ p then (acc, sm, p, 0)
    else if met then
      if kindM l p = 3 ∨ kindM l p = 4 then (if within ∧ p ≠ a then ([], false, p, 5) else (acc, sm, p, 0))
      else if kindM l p = 5 ∧ within = false ∧ 0 ≤ tabF l (run whN l (rowFrom l p)) (rowFrom l p) then ([], false, tabF l (run whN l (rowFrom l p)) (rowFrom l p), 4)
      else if kindM l p = 5 ∧ within ∧ p ≠ a ∧ (inM l p : Int) ≤ n then ([], false, ((rowFrom l p + run whN l (rowFrom l p) : Nat) : Int), 5)
      else refF l a n within f false p acc sm
    else if whN (byt l p) then refF l a n within f false (p + 1) acc sm
    else if byt l p = 10 then refF l a n within f true (p + 1) acc sm
    else if isNote l p then refF l a n within f false (rowTo l p) (acc ++ [(noteTx l p, aboveM l p)]) (if acc.isEmpty then decide (rowFrom l a ≠ a) && decide (rowFrom l a = rowFrom l p) else sm)
    else (acc, sm, p, 0)
theorem refF_fuel (l : List UInt8) (a : Nat) (n : Int) (w : Bool) : ∀ (f g : Nat) (b : Bool) (p : Nat) (acc : Notes) (nr : Bool), need l b p ≤ f → need l b p ≤ g → refF l a n w f b p acc nr = refF l a n w g b p acc nr := by
  intro f
  induction f with
  | zero => intro g b p acc nr h; unfold need at h; split at h <;> omega
  | succ f ih =>
    intro g b p acc nr h h'
    cases g with
    | zero => unfold need at h'; split at h' <;> omega
    | succ g =>
      rw [refF, refF]
      split
      · rfl
      · rename_i hl
        cases b with
        | true =>
          simp only [if_true]
          split
          · rfl
          · split
            · rfl
            · split
              · rfl
              · exact ih g false p acc nr (by simp [need] at *; omega) (by simp [need] at *; omega)
        | false =>
          simp only [Bool.false_eq_true, if_false]
          split
          · exact ih g _ _ _ _ (by simp [need] at *; omega) (by simp [need] at *; omega)
          · split
            · exact ih g _ _ _ _ (by simp [need] at *; omega) (by simp [need] at *; omega)
            · rename_i h10
              have hr := note_to (by omega) h10
              split
              · exact ih g _ _ _ _ (by simp [need] at *; omega) (by simp [need] at *; omega)
              · rfl
def refR (l : List UInt8) (a : Nat) (n : Int) (w : Bool) (b : Bool) (p : Nat) (acc : Notes) (nr : Bool) := refF l a n w (need l b p) b p acc nr
theorem refR_met (l : List UInt8) (a : Nat) (n : Int) (w : Bool) (p : Nat) (acc : Notes) (nr : Bool) (hp : p < l.length) :
    refR l a n w true p acc nr =
      if kindM l p = 3 ∨ kindM l p = 4 then (if w ∧ p ≠ a then ([], false, (p : Int), 5) else (acc, nr, (p : Int), 0))
      else if kindM l p = 5 ∧ w = false ∧ 0 ≤ tabF l (run whN l (rowFrom l p)) (rowFrom l p) then ([], false, tabF l (run whN l (rowFrom l p)) (rowFrom l p), 4)
      else if kindM l p = 5 ∧ w ∧ p ≠ a ∧ (inM l p : Int) ≤ n then ([], false, ((rowFrom l p + run whN l (rowFrom l p) : Nat) : Int), 5)
      else refR l a n w false p acc nr := by
  unfold refR
  rw [show need l true p = need l false p + 1 by simp [need], refF, if_neg (by omega)]
  simp only [if_true]
theorem refR_end (l : List UInt8) (a : Nat) (n : Int) (w b : Bool) (p : Nat) (acc : Notes) (nr : Bool) (hp : l.length ≤ p) : refR l a n w b p acc nr = (acc, nr, (p : Int), 0) := by
  unfold refR
  obtain ⟨k, hk⟩ : ∃ k, need l b p = k + 1 := ⟨need l b p - 1, by cases b <;> simp [need]⟩
  rw [hk, refF, if_pos hp]
theorem refR_in (l : List UInt8) (a : Nat) (n : Int) (w : Bool) (p : Nat) (acc : Notes) (nr : Bool) (hp : p < l.length) :
    refR l a n w false p acc nr =
    if whN (byt l p) then refR l a n w false (p + 1) acc nr
    else if byt l p = 10 then refR l a n w true (p + 1) acc nr
    else if isNote l p then refR l a n w false (rowTo l p) (acc ++ [(noteTx l p, aboveM l p)]) (if acc.isEmpty then decide (rowFrom l a ≠ a) && decide (rowFrom l a = rowFrom l p) else nr)
    else (acc, nr, (p : Int), 0) := by
  unfold refR
  rw [show need l false p = 2 * (l.length - p) + 1 by simp [need], refF, if_neg (by omega)]
  simp only [Bool.false_eq_true, if_false]
  split
  · exact refF_fuel l a n w _ _ _ _ _ _ (by simp [need]; omega) (by simp [need])
  · split
    · exact refF_fuel l a n w _ _ _ _ _ _ (by simp [need]; omega) (by simp [need])
    · rename_i h10
      have hr := note_to (by omega) h10
      split
      · exact refF_fuel l a n w _ _ _ _ _ _ (by simp [need]; omega) (by simp [need])
      · rfl
theorem near_same {l : List UInt8} {a p : Nat} (h : a ≤ p) : decide (rowFrom l p < a) = (decide (rowFrom l a ≠ a) && decide (rowFrom l a = rowFrom l p)) := by
  have ha := rowFrom_le l a
  by_cases hlt : rowFrom l p < a
  · have hs : rowFrom l p = rowFrom l a := rowFrom_same h fun j h1 h2 => rowFrom_in l p j (by omega) h2
    rw [hs] at hlt ⊢
    simp [hlt]; omega
  · rw [decide_eq_false hlt]
    symm
    rw [Bool.and_eq_false_iff]
    by_cases hs : rowFrom l a = rowFrom l p
    · left; simp; omega
    · right; simp [hs]
theorem tabF_spec (l : List UInt8) : ∀ (k p : Nat), (tabF l k p = -1 ∧ ∀ j, p ≤ j → j < p + k → byt l j ≠ 9) ∨ (∃ j : Nat, tabF l k p = j ∧ p ≤ j ∧ j < p + k ∧ byt l j = 9) := by
  intro k
  induction k with
  | zero => intro p; exact .inl ⟨rfl, fun j h1 h2 => by omega⟩
  | succ k ih =>
    intro p
    rw [tabF]
    by_cases h : byt l p = 9
    · rw [if_pos h]; exact .inr ⟨p, rfl, by omega, by omega, h⟩
    · rw [if_neg h]
      rcases ih (p + 1) with ⟨h1, h2⟩ | ⟨j, h1, h2, h3, h4⟩
      · exact .inl ⟨h1, fun j a b => by
          rcases Nat.lt_or_ge p j with hj | hj
          · exact h2 j (by omega) (by omega)
          · rw [show j = p by omega]; exact h⟩
      · exact .inr ⟨j, h1, by omega, by omega, h4⟩
theorem tabF_no {l : List UInt8} {k p : Nat} (h : ∀ j, p ≤ j → j < p + k → byt l j ≠ 9) : tabF l k p = -1 := by
  rcases tabF_spec l k p with ⟨h1, _⟩ | ⟨j, _, h2, h3, h4⟩
  · exact h1
  · exact absurd h4 (h j h2 h3)
theorem kind5 {l : List UInt8} {f : Nat} (h : kindF l f = 5) : f + run whN l f < l.length ∧ byt l (f + run whN l f) ≠ 10 ∧ byt l (f + run whN l f) ≠ 35 := by
  unfold kindF at h
  split at h
  · cases h
  · split at h
    · cases h
    · split at h
      · cases h
      · split at h
        · cases h
        · rename_i h1 h2
          exact ⟨by omega, fun h => h1 (.inr h), h2⟩
theorem mark_end {l : List UInt8} {c f : Nat} (h : l.length ≤ f) : markM l c f = false := by
  unfold markM
  rw [Bool.and_eq_false_iff]
  left; simp; omega
theorem kind_end {l : List UInt8} {f : Nat} (h : l.length ≤ f) : kindF l f = 1 := by
  unfold kindF
  rw [mark_end h, mark_end h, if_neg (by decide), if_neg (by decide), if_pos (.inl (by omega))]
theorem rowFrom_feed {l : List UInt8} {p : Nat} (h : byt l p = 10) : rowFrom l (p + 1) = p + 1 := by rw [rowFrom, if_pos h]
theorem rowFrom_next {l : List UInt8} {p : Nat} (h : byt l p ≠ 10) : rowFrom l (p + 1) = rowFrom l p := by rw [rowFrom, if_neg h]
/-- Behind a row's White. -/
theorem pass_white {l : List UInt8} {b0 : Nat} {row : Nat → Option Nat} : ∀ (k p : Nat) (acc : Notes) (nr : Bool), k ≤ run whN l p → passR l b0 row false p acc nr = passR l b0 row false (p + k) acc nr := by
  intro k
  induction k with
  | zero => intro p acc nr _; rfl
  | succ k ih =>
    intro p acc nr h
    have hw : whN (byt l p) = true := run_all p p (Nat.le_refl _) (by omega)
    have hl : p < l.length := by have := run_le whN l p; omega
    rw [passR_in, if_neg (by omega), if_pos hw, ih (p + 1) acc nr (by rw [run_step hl hw] at h; omega), show p + 1 + k = p + (k + 1) by omega]
/-- Nothing more of a tab is told in a place's row. -/
def Fine5 (l : List UInt8) (b0 p : Nat) : Prop := rowFrom l p < b0 ∨ (kindM l p = 5 → p ≤ rowFrom l p + run whN l (rowFrom l p) ∧ ∀ j, rowFrom l p ≤ j → j < rowFrom l p + run whN l (rowFrom l p) → byt l j ≠ 9)
def skipOf (l : List UInt8) (a : Nat) (r : Notes × Bool × Nat × Bool) : Notes × Bool × Int × Int :=
  let t := tabF l (r.2.2.1 - rowFrom l r.2.2.1) (rowFrom l r.2.2.1)
  if 0 ≤ t ∧ a ≤ rowFrom l r.2.2.1 ∧ kindM l r.2.2.1 = 5 then ([], false, t, 4) else (r.1, r.2.1, r.2.2.1, 0)
theorem skipOf_fine {l : List UInt8} {a p : Nat} (h : Fine5 l a p) (acc : Notes) (nr ok : Bool) : skipOf l a (acc, nr, p, ok) = (acc, nr, (p : Int), 0) := by
  unfold skipOf
  rw [if_neg]
  simp only []
  rintro ⟨h1, h2, h3⟩
  rcases h with h | h
  · omega
  · obtain ⟨h4, h5⟩ := h h3
    rw [tabF_no (fun j a b => h5 j a (by omega))] at h1
    omega
theorem fine_row {l : List UInt8} {a p q : Nat} (h : Fine5 l a p) (hr : rowFrom l q = rowFrom l p) (hq : kindM l p = 5 → a ≤ rowFrom l p → q ≤ rowFrom l p + run whN l (rowFrom l p)) : Fine5 l a q := by
  rcases h with h | h
  · exact .inl (by rw [hr]; exact h)
  · rcases Nat.lt_or_ge (rowFrom l p) a with h0 | h0
    · exact .inl (by rw [hr]; exact h0)
    · right
      unfold kindM at h hq ⊢
      rw [hr]
      intro h5
      exact ⟨hq h5 h0, (h h5).2⟩
theorem not_white {b : Nat} (h : byt [] 0 = b) : whN b = false := by subst h; rfl
theorem skip_sim (l : List UInt8) (a : Nat) : ∀ (f : Nat) (b : Bool) (p : Nat) (acc : Notes) (nr : Bool), need l b p ≤ f → a ≤ p → p ≤ l.length → (b = true → rowFrom l p = p) → (b = false → Fine5 l a p) →
    skipOf l a (passR l a (fun _ => none) b p acc nr) = refR l a 0 false b p acc nr := by
  intro f
  induction f with
  | zero => intro b p acc nr h; unfold need at h; split at h <;> omega
  | succ f ih =>
    intro b p acc nr hf ha hp hb hfi
    cases b with
    | true =>
      have hb := hb rfl
      rw [passR_beg]
      by_cases hl : p < l.length
      · rw [refR_met l a 0 false p acc nr hl]
        by_cases hk : kindM l p = 3 ∨ kindM l p = 4
        · rw [if_pos ⟨hb, hk⟩, if_pos hk, if_neg (by simp)]
          exact skipOf_fine (.inr (fun h5 => by omega)) _ _ _
        · rw [if_neg (fun h => hk h.2), if_neg hk]
          by_cases h5 : kindM l p = 5 ∧ 0 ≤ tabF l (run whN l (rowFrom l p)) (rowFrom l p)
          · rw [if_pos ⟨h5.1, rfl, h5.2⟩, pass_white (run whN l p) p acc nr (Nat.le_refl _)]
            have hk5 := kind5 h5.1
            rw [hb] at hk5 h5 ⊢
            have hoff := run_off (P := whN) _ p rfl hk5.1
            rw [passR_in, if_neg (by omega), hoff, if_neg (by decide), if_neg hk5.2.1, show isNote l (p + run whN l p) = false by unfold isNote; rw [decide_eq_false hk5.2.2]; rfl, if_neg (by decide)]
            have hrf : rowFrom l (p + run whN l p) = p := by
              rw [rowFrom_same (p := p) (by omega) (fun j h1 h2 => (notFeed_iff _).1 (wh_notFeed (run_all j p h1 h2))), hb]
            unfold skipOf
            simp only []
            rw [hrf, Nat.add_sub_cancel_left, if_pos]
            exact ⟨h5.2, ha, by unfold kindM; rw [hrf]; have := h5.1; unfold kindM at this; rw [hb] at this; exact this⟩
          · rw [if_neg (fun h => h5 ⟨h.1, h.2.2⟩), if_neg (by simp)]
            refine ih false p acc nr (by simp [need] at *; omega) ha hp (by simp) (fun _ => .inr fun hk5 => ⟨by rw [hb]; omega, fun j h1 h2 h9 => h5 ⟨hk5, ?_⟩⟩)
            rcases tabF_spec l (run whN l (rowFrom l p)) (rowFrom l p) with ⟨_, h⟩ | ⟨j, h, _⟩
            · exact absurd h9 (h j h1 h2)
            · rw [h]; omega
      · rw [refR_end _ _ _ _ _ _ _ _ (by omega), if_neg (fun h => by
          have := kind_end (l := l) (f := p) (by omega)
          have hh := h.2
          unfold kindM at hh
          rw [hb, this] at hh
          omega), passR_in, if_pos (by omega)]
        refine skipOf_fine (.inr fun h5 => ?_) _ _ _
        unfold kindM at h5
        rw [hb, kind_end (by omega)] at h5
        omega
    | false =>
      have hfi := hfi rfl
      by_cases hl : p < l.length
      · rw [passR_in, if_neg (by omega), refR_in _ _ _ _ _ _ _ hl]
        by_cases hw : whN (byt l p) = true
        · rw [if_pos hw, if_pos hw]
          have h10 : byt l p ≠ 10 := (notFeed_iff _).1 (wh_notFeed hw)
          refine ih false (p + 1) acc nr (by simp [need] at *; omega) (by omega) hl (by simp) (fun _ => fine_row hfi (rowFrom_next h10) fun h5 h0 => ?_)
          rcases hfi with hfi | hfi
          · omega
          · have := (hfi h5).1
            rcases Nat.lt_or_ge p (rowFrom l p + run whN l (rowFrom l p)) with h | h
            · exact h
            · have e : p = rowFrom l p + run whN l (rowFrom l p) := by omega
              have hoff := run_off (P := whN) (l := l) _ (rowFrom l p) rfl (by omega)
              rw [← e, hw] at hoff
              cases hoff
        · rw [if_neg hw, if_neg hw]
          by_cases h10 : byt l p = 10
          · rw [if_pos h10, if_pos h10]
            exact ih true (p + 1) acc nr (by simp [need] at *; omega) (by omega) hl (fun _ => rowFrom_feed h10) (by simp)
          · rw [if_neg h10, if_neg h10]
            have hr := note_to hl h10
            by_cases hn : isNote l p = true
            · rw [if_pos hn, if_pos hn, near_same ha]
              refine ih false (rowTo l p) _ _ (by simp [need] at *; omega) (by omega) (rowTo_le hp) (by simp) (fun _ => ?_)
              have hrf : rowFrom l (rowTo l p) = rowFrom l p := rowFrom_same (by omega) (fun j h1 h2 => rowTo_in h1 h2)
              refine fine_row hfi hrf fun h5 h0 => ?_
              exfalso
              rcases hfi with hfi | hfi
              · omega
              · have h1 := (hfi h5).1
                have h2 := kind5 h5
                rcases Nat.lt_or_ge p (rowFrom l p + run whN l (rowFrom l p)) with h | h
                · exact hw (run_all p _ (rowFrom_le l p) h)
                · have e : rowFrom l p + run whN l (rowFrom l p) = p := by omega
                  rw [e] at h2
                  unfold isNote at hn
                  rw [decide_eq_false h2.2.2] at hn
                  cases hn
            · rw [if_neg hn, if_neg hn]
              exact skipOf_fine hfi _ _ _
      · rw [passR_in, if_pos (by omega), refR_end _ _ _ _ _ _ _ _ (by omega)]
        exact skipOf_fine hfi _ _ _
/-- Whether the first row is met. -/
def metM (l : List UInt8) (a : Nat) : Bool := decide (rowFrom l a = a)
theorem skip_eq {l : List UInt8} {a : Nat} (h : a ≤ l.length) : skipM l a = refR l a 0 false (metM l a) a [] false := by
  have e : skipM l a = skipOf l a (passR l a (fun _ => none) true a [] false) := rfl
  rw [e]
  unfold metM
  by_cases hm : rowFrom l a = a
  · rw [decide_eq_true hm]
    exact skip_sim l a _ true a [] false (Nat.le_refl _) (Nat.le_refl _) h (fun _ => hm) (by simp)
  · rw [decide_eq_false hm, passR_beg, if_neg (fun h => hm h.1)]
    have := rowFrom_le l a
    exact skip_sim l a _ false a [] false (Nat.le_refl _) (Nat.le_refl _) h (by simp) (fun _ => .inl (by omega))
def withinOf (r : Notes × Bool × Nat × Bool) : Notes × Bool × Int × Int := if r.2.2.2 then (r.1, r.2.1, r.2.2.1, 0) else ([], false, r.2.2.1, 5)
theorem within_sim (l : List UInt8) (a : Nat) (n : Int) : ∀ (f : Nat) (b : Bool) (p : Nat) (acc : Notes) (nr : Bool), need l b p ≤ f → a ≤ p → p ≤ l.length → (b = true → rowFrom l p = p ∧ (p ≠ a → p < l.length → rowW l n p = none)) →
    withinOf (passR l a (rowW l n) b p acc nr) = refR l a n true b p acc nr := by
  intro f
  induction f with
  | zero => intro b p acc nr h; unfold need at h; split at h <;> omega
  | succ f ih =>
    intro b p acc nr hf ha hp hb
    cases b with
    | true =>
      obtain ⟨hb, hrow⟩ := hb rfl
      rw [passR_beg]
      by_cases hl : p < l.length
      · rw [refR_met l a n true p acc nr hl]
        by_cases hk : kindM l p = 3 ∨ kindM l p = 4
        · have hpa : p = a := by
            rcases Nat.lt_or_ge a p with h | h
            · have := hrow (by omega) hl
              unfold rowW at this
              rw [if_neg (by omega), if_pos hk] at this
              cases this
            · omega
          rw [if_pos ⟨hb, hk⟩, if_pos hk, if_neg (fun h => h.2 hpa)]
          rfl
        · rw [if_neg (fun h => hk h.2), if_neg hk, if_neg (fun h => by cases h.2.1), if_neg]
          · exact ih false p acc nr (by simp [need] at *; omega) ha hp (by simp)
          · rintro ⟨h5, _, hne, hn⟩
            have := hrow hne hl
            unfold rowW at this
            rw [if_pos h5, if_neg (by omega)] at this
            cases this
      · rw [refR_end _ _ _ _ _ _ _ _ (by omega), if_neg (fun h => by
          have := kind_end (l := l) (f := p) (by omega)
          have hh := h.2
          unfold kindM at hh
          rw [hb, this] at hh
          omega), passR_in, if_pos (by omega)]
        rfl
    | false =>
      by_cases hl : p < l.length
      · rw [passR_in, if_neg (by omega), refR_in _ _ _ _ _ _ _ hl]
        by_cases hw : whN (byt l p) = true
        · rw [if_pos hw, if_pos hw]
          exact ih false (p + 1) acc nr (by simp [need] at *; omega) (by omega) hl (by simp)
        · rw [if_neg hw, if_neg hw]
          by_cases h10 : byt l p = 10
          · rw [if_pos h10, if_pos h10]
            have hrf := rowFrom_feed h10
            cases hq : rowW l n (p + 1) with
            | none => exact ih true (p + 1) acc nr (by simp [need] at *; omega) (by omega) hl (fun _ => ⟨hrf, fun _ _ => hq⟩)
            | some q =>
              have hl2 : p + 1 < l.length := by
                rcases Nat.lt_or_ge (p + 1) l.length with h | h
                · exact h
                · exfalso
                  unfold rowW kindM at hq
                  rw [hrf, kind_end h, if_neg (by decide), if_neg (by decide)] at hq
                  cases hq
              show withinOf (acc, nr, q, false) = _
              rw [refR_met _ _ _ _ _ _ _ hl2]
              unfold rowW at hq
              split at hq
              · rename_i h5
                split at hq
                · cases hq
                · rename_i hn
                  injection hq with hq
                  subst hq
                  rw [if_neg (by omega), if_neg (fun h => by cases h.2.1), if_pos ⟨h5, rfl, by omega, by omega⟩, hrf]
                  rfl
              · split at hq
                · rename_i hk
                  injection hq with hq
                  subst hq
                  rw [if_pos hk, if_pos ⟨rfl, by omega⟩]
                  rfl
                · cases hq
          · rw [if_neg h10, if_neg h10]
            have hr := note_to hl h10
            by_cases hn : isNote l p = true
            · rw [if_pos hn, if_pos hn, near_same ha]
              exact ih false (rowTo l p) _ _ (by simp [need] at *; omega) (by omega) (rowTo_le hp) (by simp)
            · rw [if_neg hn, if_neg hn]
              rfl
      · rw [passR_in, if_pos (by omega), refR_end _ _ _ _ _ _ _ _ (by omega)]
        rfl
theorem within_eq {l : List UInt8} {a : Nat} (n : Int) (h : a ≤ l.length) : withinM l a n = refR l a n true (metM l a) a [] false := by
  have e : withinM l a n = withinOf (passR l a (rowW l n) true a [] false) := rfl
  rw [e]
  unfold metM
  by_cases hm : rowFrom l a = a
  · rw [decide_eq_true hm]
    exact within_sim l a n _ true a [] false (Nat.le_refl _) (Nat.le_refl _) h (fun _ => ⟨hm, fun h => absurd rfl h⟩)
  · rw [decide_eq_false hm, passR_beg, if_neg (fun h => hm h.1)]
    exact within_sim l a n _ false a [] false (Nat.le_refl _) (Nat.le_refl _) h (by simp)
end U
end Go.Proofs.YtobojdkloblfbaaDoor
