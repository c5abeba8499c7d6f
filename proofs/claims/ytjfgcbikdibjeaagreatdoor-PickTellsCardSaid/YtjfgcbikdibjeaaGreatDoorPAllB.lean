import Derived.Test.YtjfgcbikdibjeaaGreatDoorPAllA
import Derived.Lib.ReplaceLaws
/- Plain laws on escapes: digits without zeros ahead; the document's digits; doubled quotes. -/
namespace Go.Proofs.YtjfgcbikdibjeaaGreatDoor
namespace U
open Go

/-- A number's hex digits, no zeros ahead. -/
def hexS : Nat → Nat → List UInt8
  | 0, _ => []
  | f + 1, n => if n < 16 then [hexC n] else hexS f (n / 16) ++ [hexC (n % 16)]
theorem hexE_zero : ∀ k, hexE k 0 = List.replicate k 48 := by
  intro k
  induction k with
  | zero => rfl
  | succ k ih => rw [hexE, Nat.zero_div, ih, List.replicate_succ']; rfl
theorem hexS_pad : ∀ (k f n : Nat), n < 16 ^ k → k ≤ f → 1 ≤ k → List.replicate (k - (hexS f n).length) 48 ++ hexS f n = hexE k n ∧ (hexS f n).length ≤ k ∧ 1 ≤ (hexS f n).length := by
  intro k
  induction k with
  | zero => intro f n _ _ h; omega
  | succ k ih =>
    intro f n hn hf _
    obtain ⟨f, rfl⟩ : ∃ g, f = g + 1 := ⟨f - 1, by omega⟩
    rw [hexS]
    by_cases h : n < 16
    · rw [if_pos h]
      refine ⟨?_, by simp, by simp⟩
      rw [hexE, Nat.div_eq_of_lt h, hexE_zero, Nat.mod_eq_of_lt h]
      rfl
    · rw [if_neg h]
      have hk : 1 ≤ k := by
        rcases Nat.eq_zero_or_pos k with h0 | h0
        · subst h0; simp at hn; omega
        · exact h0
      obtain ⟨h1, h2, h3⟩ := ih f (n / 16) (by rw [Nat.pow_succ] at hn; omega) (by omega) hk
      rw [List.length_append, List.length_cons, List.length_nil]
      refine ⟨?_, by omega, by omega⟩
      rw [show k + 1 - ((hexS f (n / 16)).length + (0 + 1)) = k - (hexS f (n / 16)).length by omega, ← List.append_assoc, h1]
      rfl
/-- The document's digits, from the first one on. -/
theorem hexE_step (i m n : Nat) : hexE (m + 1) (n / 16 ^ i) = hexE m (n / 16 ^ (i + 1)) ++ [hexC (n / 16 ^ i % 16)] := by
  rw [hexE, Nat.div_div_eq_div_mul, ← Nat.pow_succ]
theorem count_q (l : List UInt8) : Lib.count l [39] ≤ l.length + 1 := Lib.count_le _ _
theorem repl_dbl : ∀ l : List UInt8, Lib.replaceAll l [39] [39, 39] = dbl l := by
  intro l
  induction l with
  | nil => rw [repl_nil _ _ (by decide) (by decide)]; rfl
  | cons b l ih =>
    rw [dbl_cons]
    by_cases h : b = 39
    · subst h
      rw [repl_yes (39 :: l) [39] [39, 39] (by decide) (by simp) (by decide) rfl, if_pos rfl]
      show [39, 39] ++ Lib.replaceAll l [39] [39, 39] = _
      rw [ih]
    · rw [repl_no _ _ _ _ (by decide) (by decide) (by have hb : ((39 : UInt8) == b) = false := (by rw [beq_eq_false_iff_ne]; exact fun e => h e.symm); show ((39 : UInt8) == b && _) = false; rw [hb]; rfl), if_neg h, ih]
      rfl
end U
end Go.Proofs.YtjfgcbikdibjeaaGreatDoor

/- Plain law: what may stand plain is read whole, whatever of this stands behind it. -/
namespace Go.Proofs.YtjfgcbikdibjeaaGreatDoor
namespace U
open Go

theorem byt_on (s b : List UInt8) (i : Nat) : byt (s ++ b) (s.length + i) = byt b i := by
  rw [byt_append_right _ _ _ (by omega), show s.length + i - s.length = i by omega]
theorem run_on (P : Nat → Bool) (s b : List UInt8) : run P (s ++ b) s.length = run P b 0 := by
  unfold run
  rw [List.drop_left, List.drop_zero]
theorem ends_on (s b : List UInt8) (i : Nat) : endsM (s ++ b) (s.length + i) = endsM b i := by
  unfold endsM
  rw [byt_on, List.length_append, show decide (s.length + b.length ≤ s.length + i) = decide (b.length ≤ i) from decide_eq_decide.2 (by omega)]
theorem stops_on (s b : List UInt8) (i : Nat) (flow : Bool) : stopsN (s ++ b) (s.length + i) flow = stopsN b i flow := by
  unfold stopsN
  rw [show s.length + i + 1 = s.length + (i + 1) by omega, ends_on, byt_on]
theorem cuts_on {s b : List UInt8} (h : byt b 0 ≠ 35) (i : Nat) (flow : Bool) : cutsN (s ++ b) (s.length + i) flow = cutsN b i flow := by
  unfold cutsN
  rw [byt_on, stops_on]
  by_cases h35 : byt b i = 35
  · rw [if_pos h35, if_pos h35]
    cases i with
    | zero => exact absurd h35 h
    | succ i => rw [show s.length + (i + 1) - 1 = s.length + i by omega, byt_on, decide_eq_true (show 0 < s.length + (i + 1) by omega), decide_eq_true (show 0 < i + 1 by omega)]; rfl
  · rw [if_neg h35, if_neg h35]
theorem partF_on {s b : List UInt8} (h : byt b 0 ≠ 35) (flow : Bool) : ∀ f i, partF (s ++ b) flow f (s.length + i) = s.length + partF b flow f i := by
  intro f
  induction f with
  | zero => intro i; rfl
  | succ f ih =>
    intro i
    rw [partF, partF, cuts_on h]
    split
    · rfl
    · exact ih (i + 1)
theorem ends_lt {s : List UInt8} {p : Nat} (h : endsM s p = false) : p < s.length := by
  rcases Nat.lt_or_ge p s.length with h1 | h1
  · exact h1
  · unfold endsM at h; rw [decide_eq_true h1] at h; simp at h
theorem ends_pre {s : List UInt8} (b : List UInt8) {p : Nat} (h : p < s.length) : endsM (s ++ b) p = endsM s p := by
  unfold endsM
  rw [byt_append_left _ _ _ h, show decide ((s ++ b).length ≤ p) = false from decide_eq_false (by rw [List.length_append]; omega), show decide (s.length ≤ p) = false from decide_eq_false (by omega)]
theorem stops_pre {s : List UInt8} (b : List UInt8) {p : Nat} {flow : Bool} (h : stopsN s p flow = false) : stopsN (s ++ b) p flow = false := by
  have he : endsM s (p + 1) = false := by
    unfold stopsN at h
    cases he : endsM s (p + 1) with
    | true => rw [he] at h; simp at h
    | false => rfl
  have hlt := ends_lt he
  unfold stopsN at h ⊢
  rw [ends_pre b hlt, byt_append_left _ _ _ hlt]
  exact h
theorem cuts_pre {s : List UInt8} (b : List UInt8) {p : Nat} {flow : Bool} (hp : p < s.length) (h : cutsN s p flow = false) : cutsN (s ++ b) p flow = false := by
  unfold cutsN at h ⊢
  rw [byt_append_left _ _ _ hp]
  by_cases h35 : byt s p = 35
  · rw [if_pos h35] at h ⊢
    rw [byt_append_left _ _ _ (show p - 1 < s.length by omega)]
    exact h
  rw [if_neg h35] at h ⊢
  by_cases h58 : byt s p = 58
  · rw [if_pos h58] at h ⊢
    exact stops_pre b h
  rw [if_neg h58] at h ⊢
  exact h
theorem begins_pre {s : List UInt8} (b : List UInt8) {flow : Bool} (h : beginsM s 0 flow = true) : beginsM (s ++ b) 0 flow = true := by
  have hp := begins_pos h
  unfold beginsM at h ⊢
  rw [ends_pre b hp, byt_append_left _ _ _ hp]
  by_cases hc : byt s 0 = 45 ∨ byt s 0 = 63 ∨ byt s 0 = 58
  · rw [if_pos hc, Bool.and_eq_true] at h ⊢
    refine ⟨h.1, ?_⟩
    rw [stops_pre b (by simpa using h.2)]
    rfl
  · rw [if_neg hc] at h ⊢
    exact h
theorem partF_pass (l : List UInt8) (flow : Bool) : ∀ (n f p : Nat), (∀ j, p ≤ j → j < p + n → cutsN l j flow = false) → partF l flow (n + f) p = partF l flow f (p + n) := by
  intro n
  induction n with
  | zero => intro f p _; rw [Nat.zero_add, Nat.add_zero]
  | succ n ih =>
    intro f p h
    rw [show n + 1 + f = (n + f) + 1 by omega, partF, if_neg (by rw [h p (Nat.le_refl _) (by omega)]; decide), ih f (p + 1) (fun j h1 h2 => h j (by omega) (by omega))]
    rw [show p + 1 + n = p + (n + 1) by omega]
theorem trimB_on {s b : List UInt8} (hl : whN (byt s (s.length - 1)) = false) : ∀ k, (∀ i, i < k → whN (byt b i) = true) → trimB (s ++ b) 0 (s.length + k) = s.length := by
  intro k
  induction k with
  | zero =>
    intro _
    have := (trimB_all (s ++ b) 0 s.length).2 (by
      rcases Nat.eq_zero_or_pos s.length with h0 | h0
      · exact .inl h0
      · exact .inr (by rw [Nat.zero_add, byt_append_left _ _ _ (by omega)]; exact hl))
    rw [Nat.add_zero, this, Nat.zero_add]
  | succ k ih =>
    intro h
    rw [show s.length + (k + 1) = (s.length + k) + 1 by omega, trimB, Nat.zero_add, byt_on, if_pos (h k (by omega))]
    exact ih (fun i hi => h i (by omega))
/-- No other row of a plain scalar stands behind a place. -/
def NoNext (l : List UInt8) (p : Nat) : Prop := p + run whN l p < rowTo l p ∨ rowTo l p = l.length ∨ (rowTo l p < l.length ∧ kindM l (rowTo l p + 1) = 5 ∧ inM l (rowTo l p + 1) = 0)
/-- What may stand behind a plain scalar. -/
structure Behind (b : List UInt8) (flow : Bool) : Prop where
  sharp : byt b 0 ≠ 35
  white : ∀ i, i < partF b flow (rowTo b 0) 0 → whN (byt b i) = true
  next : run whN b 0 < rowTo b 0 ∨ b = [] ∨ b = [10, 107, 58, 32, 118]
def behindL : List (List UInt8) := [[], [10, 107, 58, 32, 118], [32, 35, 32, 99], [58, 32, 118], [32, 9, 35, 32, 100, 10], [44, 32, 121], [93], [125], [58, 44], [91, 122]]
def behindP (k : Nat) : List UInt8 := behindL.getD k []
theorem behind_all : ∀ k, k < 10 → ∀ flow, (flow = true ∨ k < 5) → Behind (behindP k) flow := by
  have h : ∀ k, k < 10 → ∀ flow, (flow = true ∨ k < 5) → byt (behindP k) 0 ≠ 35 ∧ (∀ i, i < partF (behindP k) flow (rowTo (behindP k) 0) 0 → whN (byt (behindP k) i) = true) ∧ (run whN (behindP k) 0 < rowTo (behindP k) 0 ∨ behindP k = [] ∨ behindP k = [10, 107, 58, 32, 118]) := by decide +kernel
  intro k hk flow hf
  obtain ⟨h1, h2, h3⟩ := h k hk flow hf
  exact ⟨h1, h2, h3⟩
theorem plain_read {s b : List UInt8} {flow : Bool} (hs : IsPlain s flow) (hb : Behind b flow) : beginsM (s ++ b) 0 flow = true ∧ partM (s ++ b) 0 flow = s.length ∧ NoNext (s ++ b) s.length := by
  have hto : rowTo (s ++ b) s.length = s.length + rowTo b 0 := by unfold rowTo; rw [run_on, Nat.zero_add]
  have hto0 : rowTo (s ++ b) 0 = s.length + rowTo b 0 := by
    rw [← hto]
    exact (rowTo_same (Nat.zero_le _) (by rw [List.length_append]; omega) (fun j _ hj => by rw [byt_append_left _ _ _ hj]; exact (hs.row j hj).2)).symm
  refine ⟨begins_pre b hs.begin, ?_, ?_⟩
  · have hp := hs.pos
    unfold partM
    rw [if_pos (by rw [List.length_append]; omega), hto0]
    simp only [Nat.sub_zero]
    rw [partF_pass _ _ s.length (rowTo b 0) 0 (fun j _ hj => cuts_pre b (by omega) (hs.cuts j (by omega))), Nat.zero_add,
      show partF (s ++ b) flow (rowTo b 0) s.length = s.length + partF b flow (rowTo b 0) 0 from partF_on hb.sharp flow _ 0]
    exact trimB_on hs.last _ hb.white
  · unfold NoNext
    rw [hto, run_on]
    rcases hb.next with h | rfl | rfl
    · exact .inl (by omega)
    · exact .inr (.inl (by rw [List.append_nil]; rfl))
    · refine .inr (.inr ?_)
      have h0 : rowTo ([10, 107, 58, 32, 118] : List UInt8) 0 = 0 := by decide
      have hb0 := byt_on s [10, 107, 58, 32, 118] 0
      have hb1 := byt_on s [10, 107, 58, 32, 118] 1
      rw [h0, Nat.add_zero] at *
      have hb0 : byt (s ++ [10, 107, 58, 32, 118]) s.length = 10 := hb0
      have hb1 : byt (s ++ [10, 107, 58, 32, 118]) (s.length + 1) = 107 := hb1
      have hf : rowFrom (s ++ [10, 107, 58, 32, 118]) (s.length + 1) = s.length + 1 := rowFrom_is (Nat.le_refl _) (.inr (by rw [Nat.add_sub_cancel]; exact hb0)) (fun j h1 h2 => by omega)
      have hlen : (s ++ [10, 107, 58, 32, 118]).length = s.length + 5 := by rw [List.length_append]; rfl
      have hr : run whN (s ++ [10, 107, 58, 32, 118]) (s.length + 1) = 0 := run_stop (by rw [hb1]; rfl)
      refine ⟨by omega, ?_, ?_⟩
      · unfold kindM
        rw [hf]
        unfold kindF markM
        rw [hr, Nat.add_zero, hb1, decide_eq_false (by omega), decide_eq_false (by omega)]
        rw [if_neg (by simp), if_neg (by simp), if_neg (by omega), if_neg (by omega)]
      · unfold inM
        rw [hf]
        exact run_stop (by rw [hb1]; rfl)
end U
end Go.Proofs.YtjfgcbikdibjeaaGreatDoor

/- Plain laws on what stands between: the program's passer and the document's answer come to the same. -/
namespace Go.Proofs.YtjfgcbikdibjeaaGreatDoor
namespace U
open Go

/-- A text without White at its end. -/
def cutW (l : List UInt8) : List UInt8 := (l.reverse.dropWhile wh).reverse
def noteTx (l : List UInt8) (p : Nat) : List UInt8 := cutW ((l.drop (p + 1)).take (rowTo l p - (p + 1)))
def isNote (l : List UInt8) (p : Nat) : Bool := decide (byt l p = 35) && (decide (p = 0) || endsM l (p - 1))
abbrev Notes := List (List UInt8 × Nat)
/-- Rows and comments are passed, from a place on; row: where it stands still at the beginning of a row. -/
def passF (l : List UInt8) (b0 : Nat) (row : Nat → Option Nat) : Nat → Bool → Nat → Notes → Bool → Notes × Bool × Nat × Bool
  | 0, _, p, acc, nr => (acc, nr, p, true)
  | f + 1, true, p, acc, nr => if rowFrom l p = p ∧ (kindM l p = 3 ∨ kindM l p = 4) then (acc, nr, p, true) else passF l b0 row f false p acc nr
  | f + 1, false, p, acc, nr =>
    if l.length ≤ p then (acc, nr, p, true)
    else if whN (byt l p) then passF l b0 row f false (p + 1) acc nr
    else if byt l p = 10 then (match row (p + 1) with
      | some q => (acc, nr, q, false)
      | none => passF l b0 row f true (p + 1) acc nr)
    else if isNote l p then passF l b0 row f false (rowTo l p) (acc ++ [(noteTx l p, aboveM l p)]) (if acc.isEmpty then decide (rowFrom l p < b0) else nr)
    else (acc, nr, p, true)
def need (l : List UInt8) (b : Bool) (p : Nat) : Nat := 2 * (l.length - p) + if b then 2 else 1
theorem note_to {l : List UInt8} {p : Nat} (hl : p < l.length) (h : byt l p ≠ 10) : p < rowTo l p := by
  unfold rowTo
  rw [run_step hl ((notFeed_iff _).2 h)]
  omega
theorem passF_fuel (l : List UInt8) (b0 : Nat) (row : Nat → Option Nat) : ∀ (f g : Nat) (b : Bool) (p : Nat) (acc : Notes) (nr : Bool), need l b p ≤ f → need l b p ≤ g → passF l b0 row f b p acc nr = passF l b0 row g b p acc nr := by
  intro f
  induction f with
  | zero => intro g b p acc nr h; unfold need at h; split at h <;> omega
  | succ f ih =>
    intro g b p acc nr h h'
    cases g with
    | zero => unfold need at h'; split at h' <;> omega
    | succ g =>
      cases b with
      | true =>
        rw [passF, passF]
        split
        · rfl
        · exact ih g false p acc nr (by simp [need] at *; omega) (by simp [need] at *; omega)
      | false =>
        rw [passF, passF]
        split
        · rfl
        · rename_i hl
          have e1 : need l false (p + 1) ≤ f ∧ need l false (p + 1) ≤ g := by simp [need] at *; omega
          have e2 : need l true (p + 1) ≤ f ∧ need l true (p + 1) ≤ g := by simp [need] at *; omega
          split
          · exact ih g _ _ _ _ e1.1 e1.2
          · split
            · split
              · rfl
              · exact ih g _ _ _ _ e2.1 e2.2
            · rename_i h10
              have hr := note_to (by omega) h10
              split
              · exact ih g _ _ _ _ (by simp [need] at *; omega) (by simp [need] at *; omega)
              · rfl
def passR (l : List UInt8) (b0 : Nat) (row : Nat → Option Nat) (b : Bool) (p : Nat) (acc : Notes) (nr : Bool) : Notes × Bool × Nat × Bool := passF l b0 row (need l b p) b p acc nr
theorem passR_beg (l : List UInt8) (b0 : Nat) (row : Nat → Option Nat) (p : Nat) (acc : Notes) (nr : Bool) :
    passR l b0 row true p acc nr = if rowFrom l p = p ∧ (kindM l p = 3 ∨ kindM l p = 4) then (acc, nr, p, true) else passR l b0 row false p acc nr := by
  unfold passR
  rw [show need l true p = need l false p + 1 by simp [need], passF]
theorem passR_in (l : List UInt8) (b0 : Nat) (row : Nat → Option Nat) (p : Nat) (acc : Notes) (nr : Bool) :
    passR l b0 row false p acc nr =
    if l.length ≤ p then (acc, nr, p, true)
    else if whN (byt l p) then passR l b0 row false (p + 1) acc nr
    else if byt l p = 10 then (match row (p + 1) with
      | some q => (acc, nr, q, false)
      | none => passR l b0 row true (p + 1) acc nr)
    else if isNote l p then passR l b0 row false (rowTo l p) (acc ++ [(noteTx l p, aboveM l p)]) (if acc.isEmpty then decide (rowFrom l p < b0) else nr)
    else (acc, nr, p, true) := by
  unfold passR
  rw [show need l false p = 2 * (l.length - p) + 1 by simp [need], passF]
  split
  · rfl
  · rename_i hl
    split
    · exact passF_fuel l b0 row _ _ _ _ _ _ (by simp [need]; omega) (by simp [need])
    · split
      · split
        · rfl
        · exact passF_fuel l b0 row _ _ _ _ _ _ (by simp [need]; omega) (by simp [need])
      · rename_i h10
        have hr := note_to (by omega) h10
        split
        · exact passF_fuel l b0 row _ _ _ _ _ _ (by simp [need]; omega) (by simp [need])
        · rfl

/-- The first tab from a place on, of so many; none: -1. -/
def tabF (l : List UInt8) : Nat → Nat → Int
  | 0, _ => -1
  | k + 1, p => if byt l p = 9 then (p : Int) else tabF l k (p + 1)
def skipM (l : List UInt8) (a : Nat) : Notes × Bool × Int × Int :=
  let r := passR l a (fun _ => none) true a [] false
  let t := tabF l (r.2.2.1 - rowFrom l r.2.2.1) (rowFrom l r.2.2.1)
  if 0 ≤ t ∧ a ≤ rowFrom l r.2.2.1 ∧ kindM l r.2.2.1 = 5 then ([], false, t, 4) else (r.1, r.2.1, r.2.2.1, 0)
/-- Where a row within brackets stands still. -/
def rowW (l : List UInt8) (n : Int) (p : Nat) : Option Nat :=
  if kindM l p = 5 then (if n < (inM l p : Int) then none else some (p + run whN l p)) else if kindM l p = 3 ∨ kindM l p = 4 then some p else none
def withinM (l : List UInt8) (a : Nat) (n : Int) : Notes × Bool × Int × Int :=
  let r := passR l a (rowW l n) true a [] false
  if r.2.2.2 then (r.1, r.2.1, r.2.2.1, 0) else ([], false, r.2.2.1, 5)

/-- The document's answer. -/
def refF (l : List UInt8) (a : Nat) (n : Int) (within : Bool) : Nat → Bool → Nat → Notes → Bool → Notes × Bool × Int × Int
  | 0, _, p, acc, sm => (acc, sm, p, 0)
  | f + 1, met, p, acc, sm =>
    if l.length ≤ p then (acc, sm, p, 0)
    else if met then
      if kindM l p = 3 ∨ kindM l p = 4 then (if within ∧ p ≠ a then ([], false, p, 5) else (acc, sm, p, 0))
      else if kindM l p = 5 ∧ within = false ∧ 0 ≤ tabF l (run whN l (rowFrom l p)) (rowFrom l p) then ([], false, tabF l (run whN l (rowFrom l p)) (rowFrom l p), 4)
      else if kindM l p = 5 ∧ within ∧ p ≠ a ∧ (inM l p : Int) ≤ n then ([], false, ((rowFrom l p + run whN l (rowFrom l p) : Nat) : Int), 5)
      else refF l a n within f false p acc sm
    else if whN (byt l p) then refF l a n within f false (p + 1) acc sm
    else if byt l p = 10 then refF l a n within f true (p + 1) acc sm
    else if isNote l p then refF l a n within f false (rowTo l p) (acc ++ [(noteTx l p, aboveM l p)]) (if acc.isEmpty then decide (rowFrom l a ≠ a) && decide (rowFrom l a = rowFrom l p) else sm)
    else (acc, sm, p, 0)
theorem refF_fuel (l : List UInt8) (a : Nat) (n : Int) (w : Bool) : ∀ (f g : Nat) (b : Bool) (p : Nat) (acc : Notes) (nr : Bool), need l b p ≤ f → need l b p ≤ g → refF l a n w f b p acc nr = refF l a n w g b p acc nr := by
  intro f
  induction f with
  | zero => intro g b p acc nr h; unfold need at h; split at h <;> omega
  | succ f ih =>
    intro g b p acc nr h h'
    cases g with
    | zero => unfold need at h'; split at h' <;> omega
    | succ g =>
      rw [refF, refF]
      split
      · rfl
      · rename_i hl
        cases b with
        | true =>
          simp only [if_true]
          split
          · rfl
          · split
            · rfl
            · split
              · rfl
              · exact ih g false p acc nr (by simp [need] at *; omega) (by simp [need] at *; omega)
        | false =>
          simp only [Bool.false_eq_true, if_false]
          split
          · exact ih g _ _ _ _ (by simp [need] at *; omega) (by simp [need] at *; omega)
          · split
            · exact ih g _ _ _ _ (by simp [need] at *; omega) (by simp [need] at *; omega)
            · rename_i h10
              have hr := note_to (by omega) h10
              split
              · exact ih g _ _ _ _ (by simp [need] at *; omega) (by simp [need] at *; omega)
              · rfl
def refR (l : List UInt8) (a : Nat) (n : Int) (w : Bool) (b : Bool) (p : Nat) (acc : Notes) (nr : Bool) := refF l a n w (need l b p) b p acc nr
theorem refR_met (l : List UInt8) (a : Nat) (n : Int) (w : Bool) (p : Nat) (acc : Notes) (nr : Bool) (hp : p < l.length) :
    refR l a n w true p acc nr =
      if kindM l p = 3 ∨ kindM l p = 4 then (if w ∧ p ≠ a then ([], false, (p : Int), 5) else (acc, nr, (p : Int), 0))
      else if kindM l p = 5 ∧ w = false ∧ 0 ≤ tabF l (run whN l (rowFrom l p)) (rowFrom l p) then ([], false, tabF l (run whN l (rowFrom l p)) (rowFrom l p), 4)
      else if kindM l p = 5 ∧ w ∧ p ≠ a ∧ (inM l p : Int) ≤ n then ([], false, ((rowFrom l p + run whN l (rowFrom l p) : Nat) : Int), 5)
      else refR l a n w false p acc nr := by
  unfold refR
  rw [show need l true p = need l false p + 1 by simp [need], refF, if_neg (by omega)]
  simp only [if_true]
theorem refR_end (l : List UInt8) (a : Nat) (n : Int) (w b : Bool) (p : Nat) (acc : Notes) (nr : Bool) (hp : l.length ≤ p) : refR l a n w b p acc nr = (acc, nr, (p : Int), 0) := by
  unfold refR
  obtain ⟨k, hk⟩ : ∃ k, need l b p = k + 1 := ⟨need l b p - 1, by cases b <;> simp [need]⟩
  rw [hk, refF, if_pos hp]
theorem refR_in (l : List UInt8) (a : Nat) (n : Int) (w : Bool) (p : Nat) (acc : Notes) (nr : Bool) (hp : p < l.length) :
    refR l a n w false p acc nr =
    if whN (byt l p) then refR l a n w false (p + 1) acc nr
    else if byt l p = 10 then refR l a n w true (p + 1) acc nr
    else if isNote l p then refR l a n w false (rowTo l p) (acc ++ [(noteTx l p, aboveM l p)]) (if acc.isEmpty then decide (rowFrom l a ≠ a) && decide (rowFrom l a = rowFrom l p) else nr)
    else (acc, nr, (p : Int), 0) := by
  unfold refR
  rw [show need l false p = 2 * (l.length - p) + 1 by simp [need], refF, if_neg (by omega)]
  simp only [Bool.false_eq_true, if_false]
  split
  · exact refF_fuel l a n w _ _ _ _ _ _ (by simp [need]; omega) (by simp [need])
  · split
    · exact refF_fuel l a n w _ _ _ _ _ _ (by simp [need]; omega) (by simp [need])
    · rename_i h10
      have hr := note_to (by omega) h10
      split
      · exact refF_fuel l a n w _ _ _ _ _ _ (by simp [need]; omega) (by simp [need])
      · rfl
theorem near_same {l : List UInt8} {a p : Nat} (h : a ≤ p) : decide (rowFrom l p < a) = (decide (rowFrom l a ≠ a) && decide (rowFrom l a = rowFrom l p)) := by
  have ha := rowFrom_le l a
  by_cases hlt : rowFrom l p < a
  · have hs : rowFrom l p = rowFrom l a := rowFrom_same h fun j h1 h2 => rowFrom_in l p j (by omega) h2
    rw [hs] at hlt ⊢
    simp [hlt]; omega
  · rw [decide_eq_false hlt]
    symm
    rw [Bool.and_eq_false_iff]
    by_cases hs : rowFrom l a = rowFrom l p
    · left; simp; omega
    · right; simp [hs]
theorem tabF_spec (l : List UInt8) : ∀ (k p : Nat), (tabF l k p = -1 ∧ ∀ j, p ≤ j → j < p + k → byt l j ≠ 9) ∨ (∃ j : Nat, tabF l k p = j ∧ p ≤ j ∧ j < p + k ∧ byt l j = 9) := by
  intro k
  induction k with
  | zero => intro p; exact .inl ⟨rfl, fun j h1 h2 => by omega⟩
  | succ k ih =>
    intro p
    rw [tabF]
    by_cases h : byt l p = 9
    · rw [if_pos h]; exact .inr ⟨p, rfl, by omega, by omega, h⟩
    · rw [if_neg h]
      rcases ih (p + 1) with ⟨h1, h2⟩ | ⟨j, h1, h2, h3, h4⟩
      · exact .inl ⟨h1, fun j a b => by
          rcases Nat.lt_or_ge p j with hj | hj
          · exact h2 j (by omega) (by omega)
          · rw [show j = p by omega]; exact h⟩
      · exact .inr ⟨j, h1, by omega, by omega, h4⟩
theorem tabF_no {l : List UInt8} {k p : Nat} (h : ∀ j, p ≤ j → j < p + k → byt l j ≠ 9) : tabF l k p = -1 := by
  rcases tabF_spec l k p with ⟨h1, _⟩ | ⟨j, _, h2, h3, h4⟩
  · exact h1
  · exact absurd h4 (h j h2 h3)
theorem kind5 {l : List UInt8} {f : Nat} (h : kindF l f = 5) : f + run whN l f < l.length ∧ byt l (f + run whN l f) ≠ 10 ∧ byt l (f + run whN l f) ≠ 35 := by
  unfold kindF at h
  split at h
  · cases h
  · split at h
    · cases h
    · split at h
      · cases h
      · split at h
        · cases h
        · rename_i h1 h2
          exact ⟨by omega, fun h => h1 (.inr h), h2⟩
theorem mark_end {l : List UInt8} {c f : Nat} (h : l.length ≤ f) : markM l c f = false := by
  unfold markM
  rw [Bool.and_eq_false_iff]
  left; simp; omega
theorem kind_end {l : List UInt8} {f : Nat} (h : l.length ≤ f) : kindF l f = 1 := by
  unfold kindF
  rw [mark_end h, mark_end h, if_neg (by decide), if_neg (by decide), if_pos (.inl (by omega))]
theorem rowFrom_feed {l : List UInt8} {p : Nat} (h : byt l p = 10) : rowFrom l (p + 1) = p + 1 := by rw [rowFrom, if_pos h]
theorem rowFrom_next {l : List UInt8} {p : Nat} (h : byt l p ≠ 10) : rowFrom l (p + 1) = rowFrom l p := by rw [rowFrom, if_neg h]
/-- Behind a row's White. -/
theorem pass_white {l : List UInt8} {b0 : Nat} {row : Nat → Option Nat} : ∀ (k p : Nat) (acc : Notes) (nr : Bool), k ≤ run whN l p → passR l b0 row false p acc nr = passR l b0 row false (p + k) acc nr := by
  intro k
  induction k with
  | zero => intro p acc nr _; rfl
  | succ k ih =>
    intro p acc nr h
    have hw : whN (byt l p) = true := run_all p p (Nat.le_refl _) (by omega)
    have hl : p < l.length := by have := run_le whN l p; omega
    rw [passR_in, if_neg (by omega), if_pos hw, ih (p + 1) acc nr (by rw [run_step hl hw] at h; omega), show p + 1 + k = p + (k + 1) by omega]
/-- Nothing more of a tab is told in a place's row. -/
def Fine5 (l : List UInt8) (b0 p : Nat) : Prop := rowFrom l p < b0 ∨ (kindM l p = 5 → p ≤ rowFrom l p + run whN l (rowFrom l p) ∧ ∀ j, rowFrom l p ≤ j → j < rowFrom l p + run whN l (rowFrom l p) → byt l j ≠ 9)
def skipOf (l : List UInt8) (a : Nat) (r : Notes × Bool × Nat × Bool) : Notes × Bool × Int × Int :=
  let t := tabF l (r.2.2.1 - rowFrom l r.2.2.1) (rowFrom l r.2.2.1)
  if 0 ≤ t ∧ a ≤ rowFrom l r.2.2.1 ∧ kindM l r.2.2.1 = 5 then ([], false, t, 4) else (r.1, r.2.1, r.2.2.1, 0)
theorem skipOf_fine {l : List UInt8} {a p : Nat} (h : Fine5 l a p) (acc : Notes) (nr ok : Bool) : skipOf l a (acc, nr, p, ok) = (acc, nr, (p : Int), 0) := by
  unfold skipOf
  rw [if_neg]
  simp only []
  rintro ⟨h1, h2, h3⟩
  rcases h with h | h
  · omega
  · obtain ⟨h4, h5⟩ := h h3
    rw [tabF_no (fun j a b => h5 j a (by omega))] at h1
    omega
theorem fine_row {l : List UInt8} {a p q : Nat} (h : Fine5 l a p) (hr : rowFrom l q = rowFrom l p) (hq : kindM l p = 5 → a ≤ rowFrom l p → q ≤ rowFrom l p + run whN l (rowFrom l p)) : Fine5 l a q := by
  rcases h with h | h
  · exact .inl (by rw [hr]; exact h)
  · rcases Nat.lt_or_ge (rowFrom l p) a with h0 | h0
    · exact .inl (by rw [hr]; exact h0)
    · right
      unfold kindM at h hq ⊢
      rw [hr]
      intro h5
      exact ⟨hq h5 h0, (h h5).2⟩
theorem not_white {b : Nat} (h : byt [] 0 = b) : whN b = false := by subst h; rfl
theorem skip_sim (l : List UInt8) (a : Nat) : ∀ (f : Nat) (b : Bool) (p : Nat) (acc : Notes) (nr : Bool), need l b p ≤ f → a ≤ p → p ≤ l.length → (b = true → rowFrom l p = p) → (b = false → Fine5 l a p) →
    skipOf l a (passR l a (fun _ => none) b p acc nr) = refR l a 0 false b p acc nr := by
  intro f
  induction f with
  | zero => intro b p acc nr h; unfold need at h; split at h <;> omega
  | succ f ih =>
    intro b p acc nr hf ha hp hb hfi
    cases b with
    | true =>
      have hb := hb rfl
      rw [passR_beg]
      by_cases hl : p < l.length
      · rw [refR_met l a 0 false p acc nr hl]
        by_cases hk : kindM l p = 3 ∨ kindM l p = 4
        · rw [if_pos ⟨hb, hk⟩, if_pos hk, if_neg (by simp)]
          exact skipOf_fine (.inr (fun h5 => by omega)) _ _ _
        · rw [if_neg (fun h => hk h.2), if_neg hk]
          by_cases h5 : kindM l p = 5 ∧ 0 ≤ tabF l (run whN l (rowFrom l p)) (rowFrom l p)
          · rw [if_pos ⟨h5.1, rfl, h5.2⟩, pass_white (run whN l p) p acc nr (Nat.le_refl _)]
            have hk5 := kind5 h5.1
            rw [hb] at hk5 h5 ⊢
            have hoff := run_off (P := whN) _ p rfl hk5.1
            rw [passR_in, if_neg (by omega), hoff, if_neg (by decide), if_neg hk5.2.1, show isNote l (p + run whN l p) = false by unfold isNote; rw [decide_eq_false hk5.2.2]; rfl, if_neg (by decide)]
            have hrf : rowFrom l (p + run whN l p) = p := by
              rw [rowFrom_same (p := p) (by omega) (fun j h1 h2 => (notFeed_iff _).1 (wh_notFeed (run_all j p h1 h2))), hb]
            unfold skipOf
            simp only []
            rw [hrf, Nat.add_sub_cancel_left, if_pos]
            exact ⟨h5.2, ha, by unfold kindM; rw [hrf]; have := h5.1; unfold kindM at this; rw [hb] at this; exact this⟩
          · rw [if_neg (fun h => h5 ⟨h.1, h.2.2⟩), if_neg (by simp)]
            refine ih false p acc nr (by simp [need] at *; omega) ha hp (by simp) (fun _ => .inr fun hk5 => ⟨by rw [hb]; omega, fun j h1 h2 h9 => h5 ⟨hk5, ?_⟩⟩)
            rcases tabF_spec l (run whN l (rowFrom l p)) (rowFrom l p) with ⟨_, h⟩ | ⟨j, h, _⟩
            · exact absurd h9 (h j h1 h2)
            · rw [h]; omega
      · rw [refR_end _ _ _ _ _ _ _ _ (by omega), if_neg (fun h => by
          have := kind_end (l := l) (f := p) (by omega)
          have hh := h.2
          unfold kindM at hh
          rw [hb, this] at hh
          omega), passR_in, if_pos (by omega)]
        refine skipOf_fine (.inr fun h5 => ?_) _ _ _
        unfold kindM at h5
        rw [hb, kind_end (by omega)] at h5
        omega
    | false =>
      have hfi := hfi rfl
      by_cases hl : p < l.length
      · rw [passR_in, if_neg (by omega), refR_in _ _ _ _ _ _ _ hl]
        by_cases hw : whN (byt l p) = true
        · rw [if_pos hw, if_pos hw]
          have h10 : byt l p ≠ 10 := (notFeed_iff _).1 (wh_notFeed hw)
          refine ih false (p + 1) acc nr (by simp [need] at *; omega) (by omega) hl (by simp) (fun _ => fine_row hfi (rowFrom_next h10) fun h5 h0 => ?_)
          rcases hfi with hfi | hfi
          · omega
          · have := (hfi h5).1
            rcases Nat.lt_or_ge p (rowFrom l p + run whN l (rowFrom l p)) with h | h
            · exact h
            · have e : p = rowFrom l p + run whN l (rowFrom l p) := by omega
              have hoff := run_off (P := whN) (l := l) _ (rowFrom l p) rfl (by omega)
              rw [← e, hw] at hoff
              cases hoff
        · rw [if_neg hw, if_neg hw]
          by_cases h10 : byt l p = 10
          · rw [if_pos h10, if_pos h10]
            exact ih true (p + 1) acc nr (by simp [need] at *; omega) (by omega) hl (fun _ => rowFrom_feed h10) (by simp)
          · rw [if_neg h10, if_neg h10]
            have hr := note_to hl h10
            by_cases hn : isNote l p = true
            · rw [if_pos hn, if_pos hn, near_same ha]
              refine ih false (rowTo l p) _ _ (by simp [need] at *; omega) (by omega) (rowTo_le hp) (by simp) (fun _ => ?_)
              have hrf : rowFrom l (rowTo l p) = rowFrom l p := rowFrom_same (by omega) (fun j h1 h2 => rowTo_in h1 h2)
              refine fine_row hfi hrf fun h5 h0 => ?_
              exfalso
              rcases hfi with hfi | hfi
              · omega
              · have h1 := (hfi h5).1
                have h2 := kind5 h5
                rcases Nat.lt_or_ge p (rowFrom l p + run whN l (rowFrom l p)) with h | h
                · exact hw (run_all p _ (rowFrom_le l p) h)
                · have e : rowFrom l p + run whN l (rowFrom l p) = p := by omega
                  rw [e] at h2
                  unfold isNote at hn
                  rw [decide_eq_false h2.2.2] at hn
                  cases hn
            · rw [if_neg hn, if_neg hn]
              exact skipOf_fine hfi _ _ _
      · rw [passR_in, if_pos (by omega), refR_end _ _ _ _ _ _ _ _ (by omega)]
        exact skipOf_fine hfi _ _ _
/-- Whether the first row is met. -/
def metM (l : List UInt8) (a : Nat) : Bool := decide (rowFrom l a = a)
theorem skip_eq {l : List UInt8} {a : Nat} (h : a ≤ l.length) : skipM l a = refR l a 0 false (metM l a) a [] false := by
  have e : skipM l a = skipOf l a (passR l a (fun _ => none) true a [] false) := rfl
  rw [e]
  unfold metM
  by_cases hm : rowFrom l a = a
  · rw [decide_eq_true hm]
    exact skip_sim l a _ true a [] false (Nat.le_refl _) (Nat.le_refl _) h (fun _ => hm) (by simp)
  · rw [decide_eq_false hm, passR_beg, if_neg (fun h => hm h.1)]
    have := rowFrom_le l a
    exact skip_sim l a _ false a [] false (Nat.le_refl _) (Nat.le_refl _) h (by simp) (fun _ => .inl (by omega))
def withinOf (r : Notes × Bool × Nat × Bool) : Notes × Bool × Int × Int := if r.2.2.2 then (r.1, r.2.1, r.2.2.1, 0) else ([], false, r.2.2.1, 5)
theorem within_sim (l : List UInt8) (a : Nat) (n : Int) : ∀ (f : Nat) (b : Bool) (p : Nat) (acc : Notes) (nr : Bool), need l b p ≤ f → a ≤ p → p ≤ l.length → (b = true → rowFrom l p = p ∧ (p ≠ a → p < l.length → rowW l n p = none)) →
    withinOf (passR l a (rowW l n) b p acc nr) = refR l a n true b p acc nr := by
  intro f
  induction f with
  | zero => intro b p acc nr h; unfold need at h; split at h <;> omega
  | succ f ih =>
    intro b p acc nr hf ha hp hb
    cases b with
    | true =>
      obtain ⟨hb, hrow⟩ := hb rfl
      rw [passR_beg]
      by_cases hl : p < l.length
      · rw [refR_met l a n true p acc nr hl]
        by_cases hk : kindM l p = 3 ∨ kindM l p = 4
        · have hpa : p = a := by
            rcases Nat.lt_or_ge a p with h | h
            · have := hrow (by omega) hl
              unfold rowW at this
              rw [if_neg (by omega), if_pos hk] at this
              cases this
            · omega
          rw [if_pos ⟨hb, hk⟩, if_pos hk, if_neg (fun h => h.2 hpa)]
          rfl
        · rw [if_neg (fun h => hk h.2), if_neg hk, if_neg (fun h => by cases h.2.1), if_neg]
          · exact ih false p acc nr (by simp [need] at *; omega) ha hp (by simp)
          · rintro ⟨h5, _, hne, hn⟩
            have := hrow hne hl
            unfold rowW at this
            rw [if_pos h5, if_neg (by omega)] at this
            cases this
      · rw [refR_end _ _ _ _ _ _ _ _ (by omega), if_neg (fun h => by
          have := kind_end (l := l) (f := p) (by omega)
          have hh := h.2
          unfold kindM at hh
          rw [hb, this] at hh
          omega), passR_in, if_pos (by omega)]
        rfl
    | false =>
      by_cases hl : p < l.length
      · rw [passR_in, if_neg (by omega), refR_in _ _ _ _ _ _ _ hl]
        by_cases hw : whN (byt l p) = true
        · rw [if_pos hw, if_pos hw]
          exact ih false (p + 1) acc nr (by simp [need] at *; omega) (by omega) hl (by simp)
        · rw [if_neg hw, if_neg hw]
          by_cases h10 : byt l p = 10
          · rw [if_pos h10, if_pos h10]
            have hrf := rowFrom_feed h10
            cases hq : rowW l n (p + 1) with
            | none => exact ih true (p + 1) acc nr (by simp [need] at *; omega) (by omega) hl (fun _ => ⟨hrf, fun _ _ => hq⟩)
            | some q =>
              have hl2 : p + 1 < l.length := by
                rcases Nat.lt_or_ge (p + 1) l.length with h | h
                · exact h
                · exfalso
                  unfold rowW kindM at hq
                  rw [hrf, kind_end h, if_neg (by decide), if_neg (by decide)] at hq
                  cases hq
              show withinOf (acc, nr, q, false) = _
              rw [refR_met _ _ _ _ _ _ _ hl2]
              unfold rowW at hq
              split at hq
              · rename_i h5
                split at hq
                · cases hq
                · rename_i hn
                  injection hq with hq
                  subst hq
                  rw [if_neg (by omega), if_neg (fun h => by cases h.2.1), if_pos ⟨h5, rfl, by omega, by omega⟩, hrf]
                  rfl
              · split at hq
                · rename_i hk
                  injection hq with hq
                  subst hq
                  rw [if_pos hk, if_pos ⟨rfl, by omega⟩]
                  rfl
                · cases hq
          · rw [if_neg h10, if_neg h10]
            have hr := note_to hl h10
            by_cases hn : isNote l p = true
            · rw [if_pos hn, if_pos hn, near_same ha]
              exact ih false (rowTo l p) _ _ (by simp [need] at *; omega) (by omega) (rowTo_le hp) (by simp)
            · rw [if_neg hn, if_neg hn]
              rfl
      · rw [passR_in, if_pos (by omega), refR_end _ _ _ _ _ _ _ _ (by omega)]
        rfl
theorem within_eq {l : List UInt8} {a : Nat} (n : Int) (h : a ≤ l.length) : withinM l a n = refR l a n true (metM l a) a [] false := by
  have e : withinM l a n = withinOf (passR l a (rowW l n) true a [] false) := rfl
  rw [e]
  unfold metM
  by_cases hm : rowFrom l a = a
  · rw [decide_eq_true hm]
    exact within_sim l a n _ true a [] false (Nat.le_refl _) (Nat.le_refl _) h (fun _ => ⟨hm, fun h => absurd rfl h⟩)
  · rw [decide_eq_false hm, passR_beg, if_neg (fun h => hm h.1)]
    exact within_sim l a n _ false a [] false (Nat.le_refl _) (Nat.le_refl _) h (by simp)
end U
end Go.Proofs.YtjfgcbikdibjeaaGreatDoor

/- Plain laws on block scalars. -/
namespace Go.Proofs.YtjfgcbikdibjeaaGreatDoor
namespace U
open Go

/-- A place's row. -/
def rowM (l : List UInt8) (p : Nat) : List UInt8 := (l.drop (rowFrom l p)).take (rowTo l p - rowFrom l p)
theorem rowM_len {l : List UInt8} {p : Nat} (hp : p ≤ l.length) : (rowM l p).length = rowTo l p - rowFrom l p := by
  have := rowTo_le hp
  unfold rowM
  rw [List.length_take, List.length_drop]
  omega
theorem rowM_byt {l : List UInt8} {p j : Nat} (h : j < rowTo l p - rowFrom l p) : byt (rowM l p) j = byt l (rowFrom l p + j) := by
  unfold rowM
  rw [byt_take _ _ _ h, byt_drop]
def blankB (l : List UInt8) (p : Nat) : Bool := (rowM l p).all fun b => decide (b.toNat = 32)
def markB (l : List UInt8) (p : Nat) : Bool := decide (kindM l p = 3 ∨ kindM l p = 4)
def nextM (l : List UInt8) (p : Nat) : Nat := min (rowTo l p + 1) l.length
theorem next_gt {l : List UInt8} {p : Nat} (h : p < l.length) : p < nextM l p := by
  have := rowTo_ge l p
  unfold nextM; omega
theorem next_le (l : List UInt8) (p : Nat) : nextM l p ≤ l.length := by unfold nextM; omega
/-- A row begins at a place, if there is a row. -/
def St (l : List UInt8) (p : Nat) : Prop := p < l.length → rowFrom l p = p
theorem st_end (l : List UInt8) {p : Nat} (h : l.length ≤ p) : St l p := fun hp => absurd hp (by omega)
theorem st_behind {l : List UInt8} {t : Nat} (h : t < l.length → byt l t = 10) : St l (min (t + 1) l.length) := by
  intro hp
  rw [show min (t + 1) l.length = t + 1 by omega]
  exact rowFrom_feed (h (by omega))
theorem st_next (l : List UInt8) (p : Nat) : St l (nextM l p) := st_behind fun h => rowTo_off h
theorem blank_in {l : List UInt8} {p : Nat} (hp : p ≤ l.length) : blankB l p = decide (inM l p = rowTo l p - rowFrom l p) := by
  have h1 := in_le hp
  have h2 := rowTo_le hp
  have hl := rowM_len hp
  rcases Nat.lt_or_ge (inM l p) (rowTo l p - rowFrom l p) with h | h
  · rw [decide_eq_false (by omega)]
    have hoff := run_off (P := blankN) (l := l) _ (rowFrom l p) rfl (by unfold inM at h; omega)
    have hb := rowM_byt (l := l) (p := p) (j := inM l p) h
    cases ha : blankB l p with
    | false => rfl
    | true =>
      exfalso
      have := List.all_eq_true.1 ha _ (List.getElem_mem (by omega : inM l p < (rowM l p).length))
      have e : byt (rowM l p) (inM l p) = 32 := by rw [← byt_get _ _ (by omega)]; exact of_decide_eq_true this
      rw [hb] at e
      unfold inM at e
      rw [e] at hoff
      cases hoff
  · rw [decide_eq_true (by omega)]
    refine List.all_eq_true.2 fun b hb => ?_
    obtain ⟨j, hj, rfl⟩ := List.getElem_of_mem hb
    have hb := rowM_byt (l := l) (p := p) (j := j) (by omega)
    have ha := run_all (P := blankN) (l := l) (rowFrom l p + j) (rowFrom l p) (by omega) (by unfold inM at h; omega)
    have e : byt (rowM l p) j = ((rowM l p)[j]).toNat := (byt_get _ _ hj).symm
    rw [← e, hb]
    exact ha
theorem mark_byte {l : List UInt8} {p : Nat} (h : markB l p = true) : byt l (rowFrom l p) = 45 ∨ byt l (rowFrom l p) = 46 := by
  have h := of_decide_eq_true h
  unfold kindM kindF at h
  split at h
  · rename_i hm
    unfold markM at hm
    have := of_decide_eq_true (Bool.and_eq_true_iff.1 hm).1
    exact .inl this.2.1
  · split at h
    · rename_i hm
      unfold markM at hm
      have := of_decide_eq_true (Bool.and_eq_true_iff.1 hm).1
      exact .inr this.2.1
    · exfalso
      split at h
      · omega
      · split at h <;> omega
theorem blank_mark {l : List UInt8} {p : Nat} (hp : p < l.length) (h : blankB l p = true) : markB l p = false := by
  cases hm : markB l p with
  | false => rfl
  | true =>
    exfalso
    have hb := mark_byte hm
    rw [blank_in (Nat.le_of_lt hp), decide_eq_true_iff] at h
    have h1 : rowFrom l p < rowTo l p := by
      have h2 := rowTo_from (Nat.le_of_lt hp)
      rcases Nat.lt_or_ge (rowFrom l p) (rowTo l p) with h3 | h3
      · exact h3
      · have h4 := rowFrom_le l p
        have h5 := rowTo_ge l p
        have h6 : rowTo l p < l.length := by omega
        have := rowTo_off h6
        rw [show rowTo l p = rowFrom l p by omega] at this
        omega
    have := run_all (P := blankN) (l := l) (rowFrom l p) (rowFrom l p) (Nat.le_refl _) (by unfold inM at h; omega)
    unfold blankN at this
    have := of_decide_eq_true this
    omega

/-- The first row from a place on that has other than blanks; the end, if there is none. -/
def frontF (l : List UInt8) : Nat → Nat → Nat
  | 0, p => p
  | f + 1, p => if p < l.length ∧ blankB l p = true then frontF l f (nextM l p) else p
def frontM (l : List UInt8) (p : Nat) : Nat := frontF l (l.length - p) p
theorem frontF_fuel (l : List UInt8) : ∀ (f g p : Nat), l.length - p ≤ f → l.length - p ≤ g → frontF l f p = frontF l g p := by
  intro f
  induction f with
  | zero =>
    intro g p h _
    cases g with
    | zero => rfl
    | succ g => rw [frontF, frontF, if_neg (by omega)]
  | succ f ih =>
    intro g p h1 h2
    cases g with
    | zero => rw [frontF, frontF, if_neg (by omega)]
    | succ g =>
      rw [frontF, frontF]
      split
      · rename_i h
        have := next_gt h.1
        exact ih _ _ (by omega) (by omega)
      · rfl
theorem front_go {l : List UInt8} {p : Nat} (h : p < l.length) (hb : blankB l p = true) : frontM l p = frontM l (nextM l p) := by
  have := next_gt h
  rw [frontM, show l.length - p = (l.length - p - 1) + 1 by omega, frontF, if_pos ⟨h, hb⟩]
  exact frontF_fuel l _ _ _ (by omega) (Nat.le_refl _)
theorem front_stop {l : List UInt8} {p : Nat} (h : ¬ (p < l.length ∧ blankB l p = true)) : frontM l p = p := by
  rw [frontM]
  cases l.length - p with
  | zero => rfl
  | succ f => rw [frontF, if_neg h]
theorem front_is (l : List UInt8) : ∀ (d p : Nat), l.length - p ≤ d → p ≤ l.length → St l p →
    p ≤ frontM l p ∧ frontM l p ≤ l.length ∧ St l (frontM l p) ∧ (frontM l p < l.length → blankB l (frontM l p) = false) := by
  intro d
  induction d with
  | zero =>
    intro p h hp hs
    rw [front_stop (by omega)]
    exact ⟨Nat.le_refl _, hp, hs, fun h' => by omega⟩
  | succ d ih =>
    intro p h hp hs
    by_cases hc : p < l.length ∧ blankB l p = true
    · rw [front_go hc.1 hc.2]
      have h1 := next_gt hc.1
      obtain ⟨a, b, c, e⟩ := ih (nextM l p) (by omega) (next_le l p) (st_next l p)
      exact ⟨by omega, b, c, e⟩
    · rw [front_stop hc]
      exact ⟨Nat.le_refl _, hp, hs, fun h' => by
        cases hb : blankB l p with
        | false => rfl
        | true => exact absurd ⟨h', hb⟩ hc⟩

/-- Where the first row of more than so many bytes has what may not stand there. -/
def tooF (l : List UInt8) (w e : Nat) : Nat → Nat → Option Nat
  | 0, _ => none
  | f + 1, k => if k < e then (if w < rowTo l k - rowFrom l k then some (k + w) else tooF l w e f (nextM l k)) else none
def tooM (l : List UInt8) (w e k : Nat) : Option Nat := tooF l w e (l.length - k) k
theorem tooF_fuel (l : List UInt8) (w e : Nat) (he : e ≤ l.length) : ∀ (f g k : Nat), l.length - k ≤ f → l.length - k ≤ g → tooF l w e f k = tooF l w e g k := by
  intro f
  induction f with
  | zero =>
    intro g p h _
    cases g with
    | zero => rfl
    | succ g => rw [tooF, tooF, if_neg (by omega)]
  | succ f ih =>
    intro g p h1 h2
    cases g with
    | zero => rw [tooF, tooF, if_neg (by omega)]
    | succ g =>
      rw [tooF, tooF]
      by_cases hp : p < e
      · have := next_gt (l := l) (p := p) (by omega)
        rw [ih g (nextM l p) (by omega) (by omega)]
      · rw [if_neg hp, if_neg hp]
theorem too_end {l : List UInt8} {w e k : Nat} (h : e ≤ k) : tooM l w e k = none := by
  rw [tooM]
  cases l.length - k with
  | zero => rfl
  | succ f => rw [tooF, if_neg (by omega)]
theorem too_go {l : List UInt8} {w e k : Nat} (he : e ≤ l.length) (h : k < e) : tooM l w e k = if w < rowTo l k - rowFrom l k then some (k + w) else tooM l w e (nextM l k) := by
  have := next_gt (l := l) (p := k) (by omega)
  rw [tooM, show l.length - k = (l.length - k - 1) + 1 by omega, tooF, if_pos h, tooM, tooF_fuel l w e he (l.length - k - 1) (l.length - nextM l k) _ (by omega) (by omega)]
theorem too_le {l : List UInt8} {w e : Nat} (he : e ≤ l.length) : ∀ (d k q : Nat), l.length - k ≤ d → St l k → tooM l w e k = some q → q ≤ l.length := by
  intro d
  induction d with
  | zero => intro k q h _ hq; rw [too_end (by omega)] at hq; cases hq
  | succ d ih =>
    intro k q h hs hq
    rcases Nat.lt_or_ge k e with hk | hk
    · rw [too_go he hk] at hq
      split at hq
      · cases hq
        have := rowTo_le (l := l) (p := k) (by omega)
        have := hs (by omega)
        omega
      · have := next_gt (l := l) (p := k) (by omega)
        exact ih _ _ (by omega) (st_next l k) hq
    · rw [too_end hk] at hq; cases hq

/-- A row of the scalar's. -/
def okB (l : List UInt8) (w p : Nat) : Bool := !markB l p && (blankB l p || decide (w ≤ inM l p))
def textB (l : List UInt8) (w p : Nat) : List UInt8 := (rowM l p).drop w
abbrev Went := List (List UInt8) × Nat × Nat × Nat
/-- The scalar's rows: their texts, up to which they are not empty, how many line feeds stand behind, where they end. -/
def goF (l : List UInt8) (w : Nat) : Nat → Nat → List (List UInt8) → Nat → Nat → Went
  | 0, p, acc, full, feeds => (acc, full, feeds, p)
  | f + 1, p, acc, full, feeds => if p < l.length ∧ okB l w p = true then
      goF l w f (nextM l p) (acc ++ [textB l w p]) (if textB l w p = [] then full else acc.length + 1)
        ((if textB l w p = [] then feeds else 0) + if rowTo l p < l.length then 1 else 0)
    else (acc, full, feeds, p)
def goM (l : List UInt8) (w p : Nat) (acc : List (List UInt8)) (full feeds : Nat) : Went := goF l w (l.length - p) p acc full feeds
theorem goF_fuel (l : List UInt8) (w : Nat) : ∀ (f g p : Nat) (acc : List (List UInt8)) (full feeds : Nat), l.length - p ≤ f → l.length - p ≤ g → goF l w f p acc full feeds = goF l w g p acc full feeds := by
  intro f
  induction f with
  | zero =>
    intro g p acc full feeds h _
    cases g with
    | zero => rfl
    | succ g => rw [goF, goF, if_neg (by omega)]
  | succ f ih =>
    intro g p acc full feeds h1 h2
    cases g with
    | zero => rw [goF, goF, if_neg (by omega)]
    | succ g =>
      rw [goF, goF]
      split
      · rename_i h
        have := next_gt h.1
        exact ih _ _ _ _ _ (by omega) (by omega)
      · rfl
theorem go_go {l : List UInt8} {w p : Nat} {acc : List (List UInt8)} {full feeds : Nat} (h : p < l.length) (hb : okB l w p = true) :
    goM l w p acc full feeds = goM l w (nextM l p) (acc ++ [textB l w p]) (if textB l w p = [] then full else acc.length + 1)
        ((if textB l w p = [] then feeds else 0) + if rowTo l p < l.length then 1 else 0) := by
  have := next_gt h
  rw [goM, show l.length - p = (l.length - p - 1) + 1 by omega, goF, if_pos ⟨h, hb⟩]
  exact goF_fuel l w _ _ _ _ _ _ (by omega) (Nat.le_refl _)
theorem go_stop {l : List UInt8} {w p : Nat} {acc : List (List UInt8)} {full feeds : Nat} (h : ¬ (p < l.length ∧ okB l w p = true)) : goM l w p acc full feeds = (acc, full, feeds, p) := by
  rw [goM]
  cases l.length - p with
  | zero => rfl
  | succ f => rw [goF, if_neg h]
def endM (l : List UInt8) (w p : Nat) : Nat := (goM l w p [] 0 0).2.2.2
theorem go_end (l : List UInt8) (w : Nat) : ∀ (d p : Nat) (acc : List (List UInt8)) (full feeds : Nat), l.length - p ≤ d → (goM l w p acc full feeds).2.2.2 = endM l w p := by
  intro d
  induction d with
  | zero => intro p acc full feeds h; unfold endM; rw [go_stop (by omega), go_stop (by omega)]
  | succ d ih =>
    intro p acc full feeds h
    by_cases hc : p < l.length ∧ okB l w p = true
    · have := next_gt hc.1
      unfold endM
      rw [go_go hc.1 hc.2, go_go hc.1 hc.2, ih _ _ _ _ (by omega), ih _ _ _ _ (by omega)]
    · unfold endM; rw [go_stop hc, go_stop hc]
theorem end_go {l : List UInt8} {w p : Nat} (h : p < l.length) (hb : okB l w p = true) : endM l w p = endM l w (nextM l p) := by
  conv => lhs; unfold endM
  rw [go_go h hb, go_end l w _ _ _ _ _ (Nat.le_refl _)]
theorem end_stop {l : List UInt8} {w p : Nat} (h : ¬ (p < l.length ∧ okB l w p = true)) : endM l w p = p := by
  unfold endM; rw [go_stop h]
theorem end_is (l : List UInt8) (w : Nat) : ∀ (d p : Nat), l.length - p ≤ d → p ≤ l.length → p ≤ endM l w p ∧ endM l w p ≤ l.length := by
  intro d
  induction d with
  | zero => intro p h hp; rw [end_stop (by omega)]; exact ⟨Nat.le_refl _, hp⟩
  | succ d ih =>
    intro p h hp
    by_cases hc : p < l.length ∧ okB l w p = true
    · have := next_gt hc.1
      rw [end_go hc.1 hc.2]
      have := ih (nextM l p) (by omega) (next_le l p)
      omega
    · rw [end_stop hc]; exact ⟨Nat.le_refl _, hp⟩
/-- How long what there is gets. -/
def sumL (xs : List (List UInt8)) : Nat := (xs.map fun x => x.length + 1).foldr (· + ·) 0
theorem sumL_cons (x : List UInt8) (t : List (List UInt8)) : sumL (x :: t) = x.length + 1 + sumL t := rfl
theorem sumL_snoc (xs : List (List UInt8)) (x : List UInt8) : sumL (xs ++ [x]) = sumL xs + (x.length + 1) := by
  induction xs with
  | nil => simp [sumL]
  | cons y ys ih => simp only [sumL, List.cons_append, List.map_cons, List.foldr_cons] at ih ⊢; omega
theorem textB_len {l : List UInt8} {w p : Nat} (hp : p ≤ l.length) : (textB l w p).length = rowTo l p - rowFrom l p - w := by
  unfold textB; rw [List.length_drop, rowM_len hp]
theorem go_size (l : List UInt8) (w : Nat) : ∀ (d p : Nat) (acc : List (List UInt8)) (full feeds : Nat), l.length - p ≤ d → p ≤ l.length → St l p → full ≤ acc.length → feeds ≤ p → sumL acc ≤ p + 1 →
    (p < l.length → sumL acc ≤ p) →
    sumL (goM l w p acc full feeds).1 ≤ l.length + 1 ∧ (goM l w p acc full feeds).2.1 ≤ (goM l w p acc full feeds).1.length ∧ (goM l w p acc full feeds).2.2.1 ≤ l.length := by
  intro d
  induction d with
  | zero => intro p acc full feeds h hp hs h1 h2 h3 h4; rw [go_stop (by omega)]; exact ⟨Nat.le_trans h3 (by omega), h1, Nat.le_trans h2 hp⟩
  | succ d ih =>
    intro p acc full feeds h hp hs h1 h2 h3 h4
    by_cases hc : p < l.length ∧ okB l w p = true
    · have hg := next_gt hc.1
      have ht := rowTo_le (Nat.le_of_lt hc.1)
      have hge := rowTo_ge l p
      have hl := textB_len (w := w) (Nat.le_of_lt hc.1)
      have hf := hs hc.1
      have h4 := h4 hc.1
      have hn : nextM l p = min (rowTo l p + 1) l.length := rfl
      rw [go_go hc.1 hc.2]
      refine ih _ _ _ _ (by omega) (next_le l p) (st_next l p) ?_ ?_ ?_ ?_
      · rw [List.length_append, List.length_singleton]
        split <;> omega
      · split <;> split <;> omega
      · rw [sumL_snoc]; omega
      · intro _; rw [sumL_snoc]; omega
    · rw [go_stop hc]; exact ⟨Nat.le_trans h3 (by omega), h1, Nat.le_trans h2 hp⟩

end U
end Go.Proofs.YtjfgcbikdibjeaaGreatDoor
/- Plain laws on block scalars: their headers; rows made one text. -/
namespace Go.Proofs.YtjfgcbikdibjeaaGreatDoor
namespace U
open Go

/-! ### Rows made one text. -/
def sepM (last row : List UInt8) (b : Nat) : List UInt8 :=
  if last = [] then List.replicate b 10 else if whN (byt last 0) = true ∨ whN (byt row 0) = true then List.replicate (b + 1) 10 else if b = 0 then [32] else List.replicate b 10
def foldB : List (List UInt8) → List UInt8 → Nat → List UInt8
  | [], last, b => List.replicate (if last = [] then b - 1 else b) 10
  | row :: t, last, b => if row = [] then foldB t last (b + 1) else sepM last row b ++ row ++ foldB t row 0
def joinB : List (List UInt8) → List UInt8
  | [] => []
  | [x] => x
  | x :: t => x ++ [10] ++ joinB t
def blockM (rows : List (List UInt8)) (folded : Bool) : List UInt8 := if folded then foldB rows [] 0 else joinB rows
theorem sep_len (last row : List UInt8) (b : Nat) : (sepM last row b).length ≤ b + 1 := by
  unfold sepM
  split
  · simp
  · split
    · simp
    · split <;> simp
theorem foldB_len : ∀ (xs : List (List UInt8)) (last : List UInt8) (b : Nat), (foldB xs last b).length ≤ sumL xs + b
  | [], last, b => by
    unfold foldB
    rw [List.length_replicate]
    split <;> omega
  | x :: t, last, b => by
    rw [foldB, sumL_cons]
    split
    · have := foldB_len t last (b + 1)
      omega
    · have := foldB_len t x 0
      have := sep_len last x b
      simp only [List.length_append]
      omega
theorem joinB_len : ∀ (xs : List (List UInt8)), (joinB xs).length ≤ sumL xs
  | [] => by simp [joinB]
  | [x] => by simp [joinB, sumL]
  | x :: y :: t => by
    have := joinB_len (y :: t)
    rw [joinB, sumL_cons]
    · simp only [List.length_append, List.length_singleton]
      omega
    · simp
theorem blockM_len (xs : List (List UInt8)) (f : Bool) : (blockM xs f).length ≤ sumL xs := by
  unfold blockM
  split
  · have := foldB_len xs [] 0; omega
  · exact joinB_len xs
theorem joinB_two (x y : List UInt8) (t : List (List UInt8)) : joinB (x :: y :: t) = x ++ [10] ++ joinB (y :: t) := rfl
theorem joinB_snoc : ∀ (xs : List (List UInt8)) (x : List UInt8), xs ≠ [] → joinB (xs ++ [x]) = joinB xs ++ [10] ++ x
  | [], _, h => absurd rfl h
  | [y], x, _ => rfl
  | y :: z :: t, x, _ => by
    have ih := joinB_snoc (z :: t) x (by simp)
    rw [List.cons_append, List.cons_append, joinB_two, joinB_two, ← List.cons_append, ih]
    simp
theorem sumL_take (xs : List (List UInt8)) (k : Nat) : sumL (xs.take k) ≤ sumL xs := by
  induction xs generalizing k with
  | nil => simp
  | cons x xs ih =>
    cases k with
    | zero => simp [sumL]
    | succ k =>
      have := ih k
      rw [List.take_succ_cons, sumL_cons, sumL_cons]
      omega

/-! ### Headers. -/
abbrev Hd := Nat × Nat × Nat
def hdStep (l : List UInt8) (s : Hd) : Hd :=
  if s.1 = 0 ∧ 49 ≤ byt l s.2.2 ∧ byt l s.2.2 ≤ 57 then (byt l s.2.2 - 48, s.2.1, s.2.2 + 1)
  else if s.2.1 = 0 ∧ (byt l s.2.2 = 43 ∨ byt l s.2.2 = 45) then (s.1, byt l s.2.2, s.2.2 + 1)
  else s
def hdIter (l : List UInt8) : Nat → Hd → Hd
  | 0, s => s
  | k + 1, s => hdIter l k (hdStep l s)
def hdM (l : List UInt8) (p : Nat) : Hd := hdIter l 2 (0, 0, p)
theorem hdStep_is {l : List UInt8} {s : Hd} (h : s.2.2 ≤ l.length) (h1 : s.1 ≤ 9) (h2 : s.2.1 = 0 ∨ s.2.1 = 43 ∨ s.2.1 = 45) :
    s.2.2 ≤ (hdStep l s).2.2 ∧ (hdStep l s).2.2 ≤ l.length ∧ (hdStep l s).1 ≤ 9 ∧ ((hdStep l s).2.1 = 0 ∨ (hdStep l s).2.1 = 43 ∨ (hdStep l s).2.1 = 45) ∧
    ∀ j, s.2.2 ≤ j → j < (hdStep l s).2.2 → byt l j ≠ 10 := by
  have hb : byt l s.2.2 ≠ 0 → s.2.2 < l.length := fun hn => by
    rcases Nat.lt_or_ge s.2.2 l.length with h' | h'
    · exact h'
    · exact absurd (byt_ge _ _ h') hn
  unfold hdStep
  split
  · rename_i hc
    have := hb (by omega)
    refine ⟨Nat.le_succ _, by simp only []; omega, by simp only []; omega, h2, fun j a b => ?_⟩
    simp only [] at b
    rw [show j = s.2.2 by omega]
    omega
  · split
    · rename_i hc
      have := hb (by omega)
      refine ⟨Nat.le_succ _, by simp only []; omega, h1, .inr hc.2, fun j a b => ?_⟩
      simp only [] at b
      rw [show j = s.2.2 by omega]
      omega
    · exact ⟨Nat.le_refl _, h, h1, h2, fun j a b => by omega⟩
theorem hdM_is {l : List UInt8} {p : Nat} (h : p ≤ l.length) : p ≤ (hdM l p).2.2 ∧ (hdM l p).2.2 ≤ l.length ∧ (hdM l p).1 ≤ 9 ∧ ((hdM l p).2.1 = 0 ∨ (hdM l p).2.1 = 43 ∨ (hdM l p).2.1 = 45) ∧
    rowTo l (hdM l p).2.2 = rowTo l p := by
  have h1 := hdStep_is (l := l) (s := (0, 0, p)) h (Nat.zero_le _) (.inl rfl)
  have h2 := hdStep_is (l := l) (s := hdStep l (0, 0, p)) h1.2.1 h1.2.2.1 h1.2.2.2.1
  refine ⟨Nat.le_trans h1.1 h2.1, h2.2.1, h2.2.2.1, h2.2.2.2.1, ?_⟩
  refine rowTo_same (Nat.le_trans h1.1 h2.1) h2.2.1 fun j a b => ?_
  rcases Nat.lt_or_ge j (hdStep l (0, 0, p)).2.2 with hj | hj
  · exact h1.2.2.2.2 j a hj
  · exact h2.2.2.2.2 j hj b

/-! ### What is read. -/
/-- A node that is a scalar: its kind, its style, its place, whether a comment stands behind it, that, its text. -/
structure BN where
  kind : Nat
  style : Nat
  at' : Int
  has : Bool
  trail : List UInt8
  text : List UInt8
def BN.zero : BN := ⟨0, 0, 0, false, [], []⟩
abbrev Bl := BN × Int × Nat
def feedsM (keep full feeds : Nat) : Nat := if keep = 45 then 0 else if keep = 0 then (if full = 0 then 0 else min feeds 1) else feeds
def toldM (rows : List (List UInt8)) (feeds : Nat) (folded : Bool) (keep : Nat) : List UInt8 := blockM rows folded ++ List.replicate (feedsM keep rows.length feeds) 10
def widthM (l : List UInt8) (b : Nat) (n : Int) : Nat :=
  if frontM l b < l.length ∧ markB l (frontM l b) = false ∧ n < (inM l (frontM l b) : Int) then inM l (frontM l b) else l.length
/-- Behind a header: where the rows begin; the digit, or 0; the column around. -/
def bodyW (l : List UInt8) (b d : Nat) (n : Int) : Nat := if d = 0 then widthM l b n else d + (min (max n 0) (l.length + 1)).toNat
def bodyToo (l : List UInt8) (b d : Nat) (n : Int) : Option Nat := if d = 0 then tooM l (widthM l b n) (frontM l b) b else none
def bodyM (l : List UInt8) (b d : Nat) (n : Int) : Went := goM l (bodyW l b d n) b [] 0 0
/-- Where a header ends; or what is wrong with it. -/
def hdEnd (l : List UInt8) (p : Nat) : Nat := (hdM l p).2.2 + run whN l (hdM l p).2.2
def hdBad (l : List UInt8) (p : Nat) : Bool := decide (hdEnd l p < rowTo l p ∧ (byt l (hdEnd l p) ≠ 35 ∨ hdEnd l p = (hdM l p).2.2))
def hdHas (l : List UInt8) (p : Nat) : Bool := decide (hdEnd l p < rowTo l p)
def hdTrail (l : List UInt8) (p : Nat) : List UInt8 := if hdHas l p then noteTx l (hdEnd l p) else []
def folds (l : List UInt8) (p : Nat) : Bool := decide (byt l p = 62)
def blocOf (l : List UInt8) (p : Nat) (n : Int) : Bl :=
  let b := min (rowTo l (p + 1) + 1) l.length
  let h := hdM l (p + 1)
  if hdBad l (p + 1) then (.zero, hdEnd l (p + 1), 5)
  else match bodyToo l b h.1 n with
    | some q => (.zero, q, 5)
    | none =>
      let r := bodyM l b h.1 n
      (⟨1, if folds l p then 5 else 4, p, hdHas l (p + 1), hdTrail l (p + 1), toldM (r.1.take r.2.1) r.2.2.1 (folds l p) h.2.1⟩, r.2.2.2, 0)
def startB (l : List UInt8) (a : Int) : Bool := decide (0 ≤ a ∧ a < l.length ∧ (byt l a.toNat = 124 ∨ byt l a.toNat = 62))
def blocM (l : List UInt8) (a n : Int) : Bl := if startB l a then blocOf l a.toNat n else (.zero, a, 5)
/-- The rows' beginning. -/
theorem st_begin {l : List UInt8} {p : Nat} : St l (min (rowTo l p + 1) l.length) := st_next l p
/-- A width past all rows. -/
theorem text_far {l : List UInt8} {w p : Nat} (hp : p ≤ l.length) (h : l.length ≤ w) : textB l w p = [] := by
  have := textB_len (w := w) hp
  have := rowTo_le hp
  exact List.length_eq_zero_iff.1 (by omega)
theorem ok_far {l : List UInt8} {w w' p : Nat} (hp : p < l.length) (h : l.length ≤ w) (h' : l.length ≤ w') : okB l w p = okB l w' p := by
  have h1 := in_le (Nat.le_of_lt hp)
  have h2 := rowTo_le (Nat.le_of_lt hp)
  unfold okB
  rcases Nat.lt_or_ge (inM l p) l.length with h3 | h3
  · rw [decide_eq_false (by omega), decide_eq_false (by omega)]
  · have hb : blankB l p = true := by rw [blank_in (Nat.le_of_lt hp)]; exact decide_eq_true (by omega)
    rw [hb]; rfl
theorem go_far {l : List UInt8} {w w' : Nat} (h : l.length ≤ w) (h' : l.length ≤ w') : ∀ (d p : Nat) (acc : List (List UInt8)) (full feeds : Nat), l.length - p ≤ d →
    goM l w p acc full feeds = goM l w' p acc full feeds := by
  intro d
  induction d with
  | zero => intro p acc full feeds hd; rw [go_stop (by omega), go_stop (by omega)]
  | succ d ih =>
    intro p acc full feeds hd
    by_cases hp : p < l.length
    · have hg := next_gt hp
      by_cases hc : okB l w p = true
      · rw [go_go hp hc, go_go hp (ok_far hp h h' ▸ hc), text_far (Nat.le_of_lt hp) h, text_far (Nat.le_of_lt hp) h']
        exact ih _ _ _ _ (by omega)
      · rw [go_stop (fun x => hc x.2), go_stop (fun x => hc (ok_far hp h h' ▸ x.2))]
    · rw [go_stop (fun x => hp x.1), go_stop (fun x => hp x.1)]
theorem too_far {l : List UInt8} {w e : Nat} (h : l.length ≤ w) (he : e ≤ l.length) : ∀ (d k : Nat), l.length - k ≤ d → tooM l w e k = none := by
  intro d
  induction d with
  | zero => intro k hd; exact too_end (by omega)
  | succ d ih =>
    intro k hd
    rcases Nat.lt_or_ge k e with hk | hk
    · have := next_gt (l := l) (p := k) (by omega)
      have := rowTo_le (l := l) (p := k) (by omega)
      rw [too_go he hk, if_neg (by omega)]
      exact ih _ (by omega)
    · exact too_end hk

end U
end Go.Proofs.YtjfgcbikdibjeaaGreatDoor
/- Quoted scalars as lists: what a reader comes to, and its rows as one text. -/
namespace Go.Proofs.YtjfgcbikdibjeaaGreatDoor
namespace U
open Go

/-- A row: its text, how much of it stays, whether a backslash ends it. -/
abbrev QR := List UInt8 × Nat × Bool
abbrev QRes := Int × Nat × List QR
def trimQ (c : QR) : QR := if c.2.2 then c else (c.1.take c.2.1 ++ cutW (c.1.drop c.2.1), c.2.1, false)
def newQ : QR := ([], 0, false)
def encR (r : Int) : List UInt8 := Lib.encodeRune r
def afterQ (l : List UInt8) (p : Nat) : Nat := p + 1 + run whN l (p + 1)
/-- The reader from a place on: the rows behind it, and the row it is in. -/
def scF (l : List UInt8) (n : Int) (q : Nat) : Nat → Nat → List QR → QR → QRes
  | 0, p, _, _ => (5, p, [])
  | f + 1, p, es, c =>
    if l.length ≤ p then (5, p, [])
    else if byt l p = 10 then
      if kindM l (p + 1) = 3 ∨ kindM l (p + 1) = 4 then (5, p + 1, [])
      else if kindM l (p + 1) = 1 ∨ n < (inM l (p + 1) : Int) then scF l n q f (afterQ l p) (es ++ [trimQ c]) newQ
      else (5, afterQ l p, [])
    else if byt l p = 92 ∧ q = 34 then
      if byt l (p + 1) = 10 then scF l n q f (p + 1) es (c.1, c.2.1, true)
      else if (escM l p).2.2 = 0 then scF l n q f (escM l p).2.1.toNat es (c.1 ++ encR (escM l p).1, (c.1 ++ encR (escM l p).1).length, c.2.2)
      else ((escM l p).2.2, p, [])
    else if byt l p ≠ q then scF l n q f (p + 1) es (c.1 ++ [(byt l p).toUInt8], c.2.1, c.2.2)
    else if q = 39 ∧ byt l (p + 1) = 39 then scF l n q f (p + 2) es (c.1 ++ [39], c.2.1, c.2.2)
    else (0, p + 1, es ++ [c])
def scM (l : List UInt8) (n : Int) (q p : Nat) : QRes := scF l n q (l.length + 1 - p) p [] newQ

/-! ### Rows made one text. -/
def flowF : List (List UInt8) → Bool → Nat → List UInt8
  | [], _, _ => []
  | x :: t, first, b => if x = [] ∧ first = false ∧ t ≠ [] then flowF t false (b + 1) else (if first then [] else if b = 0 then [32] else List.replicate b 10) ++ x ++ flowF t false 0
def flowM (xs : List (List UInt8)) : List UInt8 := flowF xs true 0
def jnF : List QR → Bool → Nat → List (List UInt8) → List UInt8 → List UInt8
  | [], _, _, part, out => out ++ flowM part
  | x :: t, tied, b, part, out =>
    if tied = true ∧ x.1 = [] ∧ x.2.2 = false ∧ t ≠ [] then jnF t true (b + 1) part out
    else if x.2.2 = true then jnF t true 0 [] ((if tied then out ++ List.replicate b 10 else out) ++ flowM (part ++ [x.1]))
    else jnF t false 0 (part ++ [x.1]) (if tied then out ++ List.replicate b 10 else out)
def joinQ (rs : List QR) : List UInt8 := jnF rs false 0 [] []
/-- The quoted scalar at a place: its text, where it ends, whether it is one row, what is wrong. -/
def quotM (l : List UInt8) (a n : Int) : List UInt8 × Int × Bool × Int :=
  if a < 0 ∨ (l.length : Int) ≤ a ∨ ¬ (byt l a.toNat = 39 ∨ byt l a.toNat = 34) then ([], a, false, 5)
  else match scM l n (byt l a.toNat) (a.toNat + 1) with
    | (e, p, rs) => if e = 0 then (joinQ rs, (p : Int), decide (rs.length = 1), 0) else ([], (p : Int), false, e)

theorem esc_to {l : List UInt8} {p : Nat} (h : (escM l p).2.2 = 0) : ∃ t : Nat, (escM l p).2.1 = (t : Int) ∧ p + 2 ≤ t ∧ t ≤ l.length ∧ byt l p = 92 := by
  unfold escM at h ⊢
  by_cases h1 : (p : Int) < 0 ∨ (l.length : Int) ≤ p + 1 ∨ byt l ((p : Int)).toNat ≠ 92
  · rw [if_pos h1] at h; cases h
  · rw [if_neg h1] at h ⊢
    rw [show ((p : Int)).toNat = p from rfl] at h h1 ⊢
    have h92 : byt l p = 92 := by
      rcases Nat.decEq (byt l p) 92 with h2 | h2
      · exact absurd (.inr (.inr h2)) h1
      · exact h2
    cases hs : shortM (byt l (p + 1)) with
    | some r => exact ⟨p + 2, by simp, Nat.le_refl _, by omega, h92⟩
    | none =>
      rw [hs] at h
      simp only at h ⊢
      by_cases h2 : digM (byt l (p + 1)) = 0 ∨ (l.length : Int) < (p : Int) + 2 + digM (byt l (p + 1))
      · rw [if_pos h2] at h; cases h
      · rw [if_neg h2] at h ⊢
        cases hh : hexO ((l.drop (p + 2)).take (digM (byt l (p + 1)))) with
        | none => rw [hh] at h; cases h
        | some r => exact ⟨p + 2 + digM (byt l (p + 1)), by simp, by omega, by omega, h92⟩
theorem esc_err (l : List UInt8) (a : Int) : (escM l a).2.2 = 0 ∨ (escM l a).2.2 = 5 := by
  unfold escM
  split
  · exact .inr rfl
  · split
    · exact .inl rfl
    · split
      · exact .inr rfl
      · split
        · exact .inl rfl
        · exact .inr rfl
theorem after_le {l : List UInt8} {p : Nat} (h : p < l.length) : afterQ l p ≤ l.length := by
  have := run_le whN l (p + 1)
  unfold afterQ
  omega
theorem after_gt (l : List UInt8) (p : Nat) : p < afterQ l p := by unfold afterQ; omega
/-- What it comes to, however much fuel there is. -/
def Sc (l : List UInt8) (n : Int) (q p : Nat) (es : List QR) (c : QR) (R : QRes) : Prop := ∀ f, l.length < f + p → scF l n q f p es c = R
section
variable {l : List UInt8} {n : Int} {q p : Nat} {es : List QR} {c : QR} {R : QRes}
theorem sc_step (h : ∀ f, l.length < f + 1 + p → scF l n q (f + 1) p es c = R) (hp : p ≤ l.length) : Sc l n q p es c R := by
  intro f hf
  obtain ⟨k, rfl⟩ : ∃ k, f = k + 1 := ⟨f - 1, by omega⟩
  exact h k hf
theorem sc_end (hp : p = l.length) : Sc l n q p es c (5, p, []) := sc_step (fun f _ => by rw [scF, if_pos (by omega)]) (by omega)
theorem sc_mark (hp : p < l.length) (h10 : byt l p = 10) (hk : kindM l (p + 1) = 3 ∨ kindM l (p + 1) = 4) : Sc l n q p es c (5, p + 1, []) :=
  sc_step (fun f _ => by rw [scF, if_neg (by omega), if_pos h10, if_pos hk]) (by omega)
theorem sc_out (hp : p < l.length) (h10 : byt l p = 10) (hk : ¬ (kindM l (p + 1) = 3 ∨ kindM l (p + 1) = 4)) (hn : ¬ (kindM l (p + 1) = 1 ∨ n < (inM l (p + 1) : Int))) : Sc l n q p es c (5, afterQ l p, []) :=
  sc_step (fun f _ => by rw [scF, if_neg (by omega), if_pos h10, if_neg hk, if_neg hn]) (by omega)
theorem sc_feed (hp : p < l.length) (h10 : byt l p = 10) (hk : ¬ (kindM l (p + 1) = 3 ∨ kindM l (p + 1) = 4)) (hn : kindM l (p + 1) = 1 ∨ n < (inM l (p + 1) : Int)) (h : Sc l n q (afterQ l p) (es ++ [trimQ c]) newQ R) : Sc l n q p es c R :=
  sc_step (fun f hf => by rw [scF, if_neg (by omega), if_pos h10, if_neg hk, if_pos hn]; exact h f (by have := after_gt l p; omega)) (by omega)
theorem sc_tie (hp : p < l.length) (h92 : byt l p = 92) (hq : q = 34) (h10 : byt l (p + 1) = 10) (h : Sc l n q (p + 1) es (c.1, c.2.1, true) R) : Sc l n q p es c R :=
  sc_step (fun f hf => by rw [scF, if_neg (by omega), if_neg (by omega), if_pos ⟨h92, hq⟩, if_pos h10]; exact h f (by omega)) (by omega)
theorem sc_esc (hp : p < l.length) (h92 : byt l p = 92) (hq : q = 34) (h10 : byt l (p + 1) ≠ 10) {r : Int} {t : Nat} (he : escM l p = (r, (t : Int), 0)) (h : Sc l n q t es (c.1 ++ encR r, (c.1 ++ encR r).length, c.2.2) R) : Sc l n q p es c R :=
  sc_step (fun f hf => by
    obtain ⟨t', h1, h2, h3, _⟩ := esc_to (l := l) (p := p) (by rw [he])
    rw [he] at h1
    have h1 : t = t' := Int.ofNat.inj h1
    rw [scF, if_neg (by omega), if_neg (by omega), if_pos ⟨h92, hq⟩, if_neg h10, he, if_pos rfl]
    exact h f (by omega)) (by omega)
theorem sc_bad (hp : p < l.length) (h92 : byt l p = 92) (hq : q = 34) (h10 : byt l (p + 1) ≠ 10) (he : (escM l p).2.2 = 5) : Sc l n q p es c (5, p, []) :=
  sc_step (fun f hf => by
    rw [scF, if_neg (by omega), if_neg (by omega), if_pos ⟨h92, hq⟩, if_neg h10, he, if_neg (by decide)]) (by omega)
theorem sc_byte (hp : p < l.length) (h10 : byt l p ≠ 10) (h92 : ¬ (byt l p = 92 ∧ q = 34)) (hq : byt l p ≠ q) (h : Sc l n q (p + 1) es (c.1 ++ [(byt l p).toUInt8], c.2.1, c.2.2) R) : Sc l n q p es c R :=
  sc_step (fun f hf => by rw [scF, if_neg (by omega), if_neg h10, if_neg h92, if_pos hq]; exact h f (by omega)) (by omega)
theorem sc_two (hp : p < l.length) (h39 : byt l p = 39) (hq : q = 39) (h2 : byt l (p + 1) = 39) (h : Sc l n q (p + 2) es (c.1 ++ [39], c.2.1, c.2.2) R) : Sc l n q p es c R :=
  sc_step (fun f hf => by rw [scF, if_neg (by omega), if_neg (by omega), if_neg (by omega), if_neg (by omega), if_pos ⟨hq, h2⟩]; exact h f (by omega)) (by omega)
theorem sc_done (hp : p < l.length) (h10 : byt l p ≠ 10) (hq : byt l p = q) (h2 : ¬ (q = 39 ∧ byt l (p + 1) = 39)) : Sc l n q p es c (0, p + 1, es ++ [c]) :=
  sc_step (fun f hf => by rw [scF, if_neg (by omega), if_neg h10, if_neg (by omega), if_neg (by omega), if_neg h2]) (by omega)
theorem sc_is (h : Sc l n q p [] newQ R) (hp : p ≤ l.length) : scM l n q p = R := h _ (by omega)
end
/-- A byte of a text. -/
theorem byt_u8 (l : List UInt8) (p : Nat) (h : p < l.length) : (byt l p).toUInt8 = l[p]'h := by
  unfold byt
  simp [h]
theorem flow_one (x : List UInt8) : flowM [x] = x := by simp [flowM, flowF]
theorem join_one (x : List UInt8) (k : Nat) : joinQ [(x, k, false)] = x := by
  unfold joinQ
  rw [jnF, if_neg (by simp), if_neg (by simp)]
  simp [jnF, flow_one]
end U
end Go.Proofs.YtjfgcbikdibjeaaGreatDoor

/- Plain law: what is quoted is read as it was. -/
namespace Go.Proofs.YtjfgcbikdibjeaaGreatDoor
namespace U
open Go

/-- From one state of the reader to a later one. -/
def Re (l : List UInt8) (n : Int) (q p : Nat) (es : List QR) (c : QR) (p' : Nat) (es' : List QR) (c' : QR) : Prop := ∀ R, Sc l n q p' es' c' R → Sc l n q p es c R
theorem Re.refl {l : List UInt8} {n : Int} {q p : Nat} {es : List QR} {c : QR} : Re l n q p es c p es c := fun _ h => h
theorem Re.trans {l : List UInt8} {n : Int} {q p p' p'' : Nat} {es es' es'' : List QR} {c c' c'' : QR} (h : Re l n q p es c p' es' c') (h' : Re l n q p' es' c' p'' es'' c'') : Re l n q p es c p'' es'' c'' := fun R hR => h R (h' R hR)
def calmQ (q : Nat) (b : UInt8) : Prop := b.toNat ≠ 10 ∧ b.toNat ≠ q ∧ ¬ (b.toNat = 92 ∧ q = 34)
theorem re_bytes (n : Int) (q : Nat) (es : List QR) (t : List UInt8) : ∀ (m a : List UInt8) (x : List UInt8) (k : Nat) (b : Bool), (∀ y ∈ m, calmQ q y) → Re (a ++ m ++ t) n q a.length es (x, k, b) (a.length + m.length) es (x ++ m, k, b) := by
  intro m
  induction m with
  | nil => intro a x k b _; simpa using Re.refl
  | cons y m ih =>
    intro a x k b h
    have e : a ++ y :: m ++ t = (a ++ [y]) ++ m ++ t := by simp
    have hr := ih (a ++ [y]) (x ++ [y]) k b (fun z hz => h z (by simp [hz]))
    rw [← e] at hr
    have el : (a ++ [y]).length + m.length = a.length + (y :: m).length := by simp; omega
    rw [el] at hr
    have ex : x ++ [y] ++ m = x ++ y :: m := by simp
    rw [ex] at hr
    have hy := h y (by simp)
    have hb : byt (a ++ y :: m ++ t) a.length = y.toNat := by
      have := byt_at a (y :: m ++ t) 0
      rw [Nat.add_zero, ← List.append_assoc] at this
      rw [this]; rfl
    intro R hR
    refine sc_byte (by simp) (by rw [hb]; exact hy.1) (by rw [hb]; exact hy.2.2) (by rw [hb]; exact hy.2.1) ?_
    have := hr R hR
    rw [List.length_append] at this
    rw [hb, show y.toNat.toUInt8 = y by simp]
    exact this
theorem show_bytes (r : Int) (h : byt (showM r) 0 = 92) : ∀ b ∈ showM r, 32 ≤ b.toNat ∧ b.toNat ≤ 126 := by
  unfold showM at h ⊢
  have hf := fixr_scalar r
  by_cases hl : letM (fixr r) ≠ []
  · rw [if_pos hl]; exact let_plain _
  · rw [if_neg hl] at h ⊢
    by_cases hp : printable (fixr r) = true
    · rw [if_pos hp] at h ⊢
      rcases encR_first hf.1 hf.2.1 hf.2.2 with ⟨h2, h3⟩ | ⟨h2, h3⟩
      · rw [h3] at h ⊢
        intro b hb
        obtain rfl := List.mem_singleton.1 hb
        rw [byt_zero] at h
        omega
      · exfalso
        have hpos := encR_pos (fixr r)
        cases he : Lib.encodeRune (fixr r) with
        | nil => rw [he] at hpos; simp at hpos
        | cons b m =>
          rw [he] at h3 h
          have := h3 b (by simp)
          rw [byt_zero] at h
          omega
    · rw [if_neg hp]; exact coded_plain _
theorem re_show (n : Int) (es : List QR) (a t x : List UInt8) (k : Nat) (b : Bool) (r : Int) (hr : scalarI r) :
    ∃ k', Re (a ++ showM r ++ t) n 34 a.length es (x, k, b) (a.length + (showM r).length) es (x ++ Lib.encodeRune r, k', b) := by
  obtain ⟨h0, h1, h2⟩ := hr
  rcases show_back a t r h0 h1 h2 with ⟨e0, e1, e2⟩ | ⟨e0, e1, e2, _, e34, e92, e10, _⟩
  · refine ⟨(x ++ Lib.encodeRune r).length, fun R hR => ?_⟩
    have hb0 : byt (a ++ showM r ++ t) a.length = byt (showM r) 0 := by
      have := byt_at a (showM r ++ t) 0
      rw [Nat.add_zero, ← List.append_assoc] at this
      rw [this]
      exact byt_append_left _ _ _ (by omega)
    have hb1 : byt (a ++ showM r ++ t) (a.length + 1) = byt (showM r) 1 := by
      have := byt_at a (showM r ++ t) 1
      rw [← List.append_assoc] at this
      rw [this]
      exact byt_append_left _ _ _ (by omega)
    refine sc_esc (by simp; omega) (by rw [hb0]; exact e0) rfl ?_ e2 hR
    rw [hb1]
    have := show_bytes r e0 ((showM r)[1]'(by omega)) (List.getElem_mem _)
    have hb : byt (showM r) 1 = ((showM r)[1]'(by omega)).toNat := by unfold byt; simp [show 1 < (showM r).length by omega]
    omega
  · refine ⟨k, ?_⟩
    have := re_bytes n 34 es t (showM r) a x k b (by
      intro y hy
      rw [e2] at hy
      rcases encR_first h0 h1 h2 with ⟨h3, h4⟩ | ⟨h3, h4⟩
      · rw [h4] at hy
        obtain rfl := List.mem_singleton.1 hy
        have : (r.toNat.toUInt8).toNat = r.toNat := tn r h0 (by omega)
        refine ⟨?_, ?_, ?_⟩ <;> omega
      · have := h4 y hy
        refine ⟨?_, ?_, ?_⟩ <;> omega)
    rw [e2] at this ⊢
    exact this
theorem re_shows (n : Int) (es : List QR) (t : List UInt8) (b : Bool) : ∀ (rs : List Int) (a x : List UInt8) (k : Nat), (∀ r ∈ rs, scalarI r) →
    ∃ k', Re (a ++ showsM rs ++ t) n 34 a.length es (x, k, b) (a.length + (showsM rs).length) es (x ++ enc rs, k', b) := by
  intro rs
  induction rs with
  | nil => intro a x k _; exact ⟨k, by simpa [showsM, enc] using Re.refl⟩
  | cons r rs ih =>
    intro a x k h
    obtain ⟨k1, h1⟩ := re_show n es a (showsM rs ++ t) x k b r (h r (by simp))
    obtain ⟨k2, h2⟩ := ih (a ++ showM r) (x ++ Lib.encodeRune r) k1 (fun y hy => h y (by simp [hy]))
    refine ⟨k2, ?_⟩
    rw [showsM_cons, enc_cons]
    have e1 : a ++ (showM r ++ showsM rs) ++ t = a ++ showM r ++ (showsM rs ++ t) := by simp
    have e2 : a ++ showM r ++ showsM rs ++ t = a ++ showM r ++ (showsM rs ++ t) := by simp
    rw [e2, List.length_append] at h2
    rw [e1, List.length_append, ← Nat.add_assoc, ← List.append_assoc x]
    exact h1.trans h2
theorem re_dbl (n : Int) (es : List QR) (t : List UInt8) (b : Bool) (k : Nat) : ∀ (m a x : List UInt8), (∀ y ∈ m, y.toNat ≠ 10) →
    Re (a ++ dbl m ++ t) n 39 a.length es (x, k, b) (a.length + (dbl m).length) es (x ++ m, k, b) := by
  intro m
  induction m with
  | nil => intro a x _; simpa [dbl] using Re.refl
  | cons y m ih =>
    intro a x h
    have hy := h y (by simp)
    rw [dbl_cons]
    by_cases h39 : y = 39
    · subst h39
      rw [if_pos rfl]
      have hr := ih (a ++ [39, 39]) (x ++ [39]) (fun z hz => h z (by simp [hz]))
      have e : a ++ ([39, 39] ++ dbl m) ++ t = a ++ [39, 39] ++ dbl m ++ t := by simp
      have el : (a ++ [39, 39]).length + (dbl m).length = a.length + ([39, 39] ++ dbl m).length := by simp; omega
      have ex : x ++ [39] ++ m = x ++ 39 :: m := by simp
      rw [← e, el, ex] at hr
      have hT : a ++ ([39, 39] ++ dbl m) ++ t = a ++ (39 :: 39 :: (dbl m ++ t)) := by simp
      intro R hR
      have hb0 : byt (a ++ ([39, 39] ++ dbl m) ++ t) a.length = 39 := by rw [hT]; exact byt_at a _ 0
      have hb1 : byt (a ++ ([39, 39] ++ dbl m) ++ t) (a.length + 1) = 39 := by rw [hT]; exact byt_at a _ 1
      refine sc_two (by simp) hb0 rfl hb1 ?_
      have := hr R hR
      rw [List.length_append] at this
      exact this
    · rw [if_neg h39]
      have hr := ih (a ++ [y]) (x ++ [y]) (fun z hz => h z (by simp [hz]))
      have e : a ++ ([y] ++ dbl m) ++ t = a ++ [y] ++ (dbl m ++ t) := by simp
      have e2 : a ++ [y] ++ dbl m ++ t = a ++ [y] ++ (dbl m ++ t) := by simp
      have el : (a ++ [y]).length + (dbl m).length = a.length + ([y] ++ dbl m).length := by simp; omega
      have ex : x ++ [y] ++ m = x ++ y :: m := by simp
      rw [el, ex, e2] at hr
      rw [e]
      have h1 := re_bytes n 39 es (dbl m ++ t) [y] a x k b (by
        intro z hz
        obtain rfl := List.mem_singleton.1 hz
        exact ⟨hy, fun h => h39 (UInt8.toNat_inj.1 h), by omega⟩)
      rw [List.length_append] at hr
      exact h1.trans hr
theorem single_no_feed {l : List UInt8} (h : singleM l = true) : ∀ y ∈ l, y.toNat ≠ 10 := by
  unfold singleM at h
  rw [Bool.and_eq_true] at h
  have hp : place l = -1 := by have := place_ge l; have := of_decide_eq_true h.1; omega
  have he := enc_runes hp
  intro y hy h10
  rw [← he] at hy
  obtain ⟨r, hr, hy⟩ := List.mem_flatMap.1 hy
  have hs := runes_scalar l r hr
  have ho := List.all_eq_true.1 h.2 r hr
  unfold okR at ho
  rw [Bool.and_eq_true] at ho
  have ho := of_decide_eq_true ho.2
  rcases encR_first hs.1 hs.2.1 hs.2.2 with ⟨h3, h4⟩ | ⟨h3, h4⟩
  · rw [h4] at hy
    obtain rfl := List.mem_singleton.1 hy
    have : (r.toNat.toUInt8).toNat = r.toNat := tn r hs.1 (by omega)
    have := hs.1
    omega
  · have := h4 y hy
    omega
/-- What is quoted is read as it was, whatever stands behind that does not begin with a quote. -/
theorem quote_back (l : List UInt8) (s : Bool) (behind : List UInt8) (n : Int) (hl : place l = -1) (hb : byt behind 0 ≠ 39) :
    quotM (quoteM l s ++ behind) 0 n = (l, ((quoteM l s).length : Int), true, 0) := by
  have fin : ∀ (Q : UInt8) (m : List UInt8) (k : Nat), (Q = 39 ∨ Q = 34) → Re ([Q] ++ m ++ ([Q] ++ behind)) n Q.toNat 1 [] newQ (1 + m.length) [] (l, k, false) →
      quotM ([Q] ++ m ++ [Q] ++ behind) 0 n = (l, (([Q] ++ m ++ [Q]).length : Int), true, 0) := by
    intro Q m k hQ hre
    have hT : [Q] ++ m ++ [Q] ++ behind = [Q] ++ m ++ ([Q] ++ behind) := by simp
    rw [hT]
    have hlen : ([Q] ++ m ++ ([Q] ++ behind)).length = 1 + m.length + 1 + behind.length := by simp; omega
    have hb0 : byt ([Q] ++ m ++ ([Q] ++ behind)) 0 = Q.toNat := rfl
    have hbe : byt ([Q] ++ m ++ ([Q] ++ behind)) (1 + m.length) = Q.toNat := by
      have := byt_at ([Q] ++ m) ([Q] ++ behind) 0
      rw [Nat.add_zero, show ([Q] ++ m).length = 1 + m.length by simp; omega] at this
      rw [this]; rfl
    have hbe1 : byt ([Q] ++ m ++ ([Q] ++ behind)) (1 + m.length + 1) = byt behind 0 := by
      have := byt_at ([Q] ++ m) ([Q] ++ behind) 1
      rw [show ([Q] ++ m).length = 1 + m.length by simp; omega] at this
      rw [this]
      exact byt_at [Q] behind 0
    have hq : Q.toNat = 39 ∨ Q.toNat = 34 := by rcases hQ with rfl | rfl <;> simp
    have hsc : Sc ([Q] ++ m ++ ([Q] ++ behind)) n Q.toNat 1 [] newQ (0, 1 + m.length + 1, [] ++ [(l, k, false)]) :=
      hre _ (sc_done (by rw [hlen]; omega) (by rw [hbe]; omega) hbe (by rw [hbe1]; exact fun h => hb h.2))
    have hsm := sc_is hsc (by rw [hlen]; omega)
    unfold quotM
    rw [if_neg (by rw [hlen, show (0 : Int).toNat = 0 from rfl, hb0]; omega), show (0 : Int).toNat = 0 from rfl, hb0, hsm]
    show (if (0 : Int) = 0 then (joinQ [(l, k, false)], ((1 + m.length + 1 : Nat) : Int), decide ([(l, k, false)].length = 1), (0 : Int)) else _) = _
    rw [if_pos rfl, join_one]
    refine Prod.ext rfl (Prod.ext ?_ rfl)
    simp
    omega
  unfold quoteM
  cases hc : (s && singleM l) with
  | true =>
    rw [if_pos rfl]
    rw [Bool.and_eq_true] at hc
    have := re_dbl n [] ([39] ++ behind) false 0 l [39] [] (single_no_feed hc.2)
    exact fin 39 (dbl l) 0 (.inl rfl) this
  | false =>
    rw [if_neg (by simp)]
    obtain ⟨k, hk⟩ := re_shows n [] ([34] ++ behind) false (runes l) [34] [] 0 (runes_scalar l)
    rw [enc_runes hl] at hk
    exact fin 34 (showsM (runes l)) k (.inr rfl) hk
end U
end Go.Proofs.YtjfgcbikdibjeaaGreatDoor

/- Plain law: what one row tells of a scalar, and how it is read. -/
namespace Go.Proofs.YtjfgcbikdibjeaaGreatDoor
namespace U
open Go

/-- What PickQuoted asks: it stands plain as it is, or in its quotes. -/
def QuotedP (s o : List UInt8) (T : Nat) (flow : Bool) : Prop := (T = 1 ∧ o = s ∧ (s = [] ∨ plainM s flow = true)) ∨ ((T = 2 ∨ T = 3) ∧ 1 ≤ o.length ∧ byt o 0 = (if T = 2 then 39 else 34) ∧ quotM o 0 (-1) = (s, (o.length : Int), true, 0))
theorem quoted_p (s : List UInt8) (st : Nat) (tag single bare flow : Bool) (hp : place s = -1) : QuotedP s (showP s st tag single bare flow) (styleM s st tag single bare flow true) flow := by
  have hq : ∀ b : Bool, quotM (quoteM s b) 0 (-1) = (s, ((quoteM s b).length : Int), true, 0) := fun b => by
    have := quote_back s b [] (-1) hp (by decide)
    rwa [List.append_nil] at this
  have he : ∀ b : Bool, 1 ≤ (quoteM s b).length ∧ byt (quoteM s b) 0 = (if (b && singleM s) = true then 39 else 34) := fun b => by
    unfold quoteM
    split
    · exact ⟨by simp, rfl⟩
    · exact ⟨by simp, rfl⟩
  unfold QuotedP showP
  obtain ⟨T, hT⟩ : ∃ T, T = styleM s st tag single bare flow true := ⟨_, rfl⟩
  rw [← hT]
  unfold styleM at hT
  by_cases h1 : st = 1 ∧ (s = [] ∨ plainM s flow = true)
  · rw [if_pos h1] at hT
    subst hT
    exact .inl ⟨rfl, rfl, h1.2⟩
  rw [if_neg h1, if_neg (fun h => by cases h.2.1)] at hT
  by_cases h3 : bare = true ∧ st ≠ 1 ∧ tag = false ∧ plainM s flow = true ∧ coreP s = wStr
  · rw [if_pos h3] at hT
    subst hT
    exact .inl ⟨rfl, rfl, .inr h3.2.2.2.1⟩
  rw [if_neg h3] at hT
  by_cases h4 : single = true ∧ singleM s = true
  · rw [if_pos h4] at hT
    subst hT
    rw [if_neg (by decide), if_pos rfl]
    have := he true
    rw [if_pos (by rw [h4.2]; rfl)] at this
    exact .inr ⟨.inl rfl, this.1, this.2, hq true⟩
  · rw [if_neg h4] at hT
    subst hT
    rw [if_neg (by decide), if_neg (by decide)]
    have := he false
    rw [if_neg (by simp)] at this
    exact .inr ⟨.inr rfl, this.1, this.2, hq false⟩
end U
end Go.Proofs.YtjfgcbikdibjeaaGreatDoor

/- Plain laws for the document's answer on plain scalars, rows, and what is told in one row. -/
namespace Go.Proofs.YtjfgcbikdibjeaaGreatDoor
namespace U
open Go

theorem mem_byt {l : List UInt8} {P : UInt8 → Prop} : (∀ b ∈ l, P b) ↔ ∀ b ∈ l, P b := Iff.rfl
theorem rune_feed {l : List UInt8} (hp : place l = -1) (h : (10 : Int) ∈ runes l) : (10 : UInt8) ∈ l := by
  rw [← enc_runes hp]
  exact List.mem_flatMap.2 ⟨10, h, by decide⟩
theorem single_told (l : List UInt8) : singleM l = true ↔ (toldP l = true ∧ ∀ y ∈ l, y ≠ 10) := by
  constructor
  · intro h
    refine ⟨?_, fun y hy h10 => single_no_feed h y hy (by rw [h10]; rfl)⟩
    unfold singleM at h
    unfold toldP
    rw [Bool.and_eq_true] at h ⊢
    refine ⟨List.all_eq_true.2 fun r hr => ?_, h.1⟩
    have ho := List.all_eq_true.1 h.2 r hr
    unfold okR at ho
    rw [Bool.and_eq_true] at ho
    exact ho.1
  · rintro ⟨h1, h2⟩
    unfold toldP at h1
    rw [Bool.and_eq_true] at h1
    have hp : place l = -1 := by have := place_ge l; have := of_decide_eq_true h1.2; omega
    unfold singleM
    rw [Bool.and_eq_true]
    refine ⟨h1.2, List.all_eq_true.2 fun r hr => ?_⟩
    unfold okR
    rw [List.all_eq_true.1 h1.1 r hr, Bool.true_and]
    refine decide_eq_true fun h10 => ?_
    rw [h10] at hr
    exact h2 10 (rune_feed hp hr) rfl
theorem plain_ref (l : List UInt8) (flow : Bool) : plainM l flow = (beginsM l 0 flow && decide (partM l 0 flow = l.length) && singleM l && (l.all fun b => decide (b ≠ 9)) && (!preN l 45 && !preN l 46)) := by
  have h := single_told l
  unfold plainM
  rw [Bool.eq_iff_iff]
  simp only [Bool.and_eq_true, List.all_eq_true, decide_eq_true_eq, h]
  constructor
  · rintro ⟨⟨⟨⟨⟨a, b⟩, c⟩, d⟩, e⟩, f⟩
    exact ⟨⟨⟨⟨a, b⟩, d, fun y hy => (c y hy).2⟩, fun y hy => (c y hy).1⟩, e, f⟩
  · rintro ⟨⟨⟨⟨a, b⟩, d, c2⟩, c1⟩, e, f⟩
    exact ⟨⟨⟨⟨⟨a, b⟩, fun y hy => ⟨c1 y hy, c2 y hy⟩⟩, d⟩, e⟩, f⟩
/-- Rows, without an empty one at the end. -/
def rowsR : List UInt8 → List UInt8 → List (List UInt8)
  | cur, [] => if cur.isEmpty = true then [] else [cur]
  | cur, b :: t => if b = 10 then cur :: rowsR [] t else rowsR (cur ++ [b]) t
theorem trimLF_cons (b c : UInt8) (t : List UInt8) : trimLF (b :: c :: t) = b :: trimLF (c :: t) := by
  unfold trimLF
  rw [List.getLast?_cons_cons]
  split <;> rfl
theorem rowsR_is : ∀ (l : List UInt8) (cur : List UInt8), l ≠ [] → rowsR cur l = splitB cur (trimLF l) := by
  intro l
  induction l with
  | nil => intro _ h; exact absurd rfl h
  | cons b t ih =>
    intro cur _
    cases t with
    | nil =>
      by_cases h10 : b = 10
      · subst h10
        rfl
      · have ht : trimLF [b] = [b] := by
          unfold trimLF
          rw [if_neg (by simpa using h10)]
        rw [ht, rowsR, if_neg h10, rowsR, splitB, if_neg h10, splitB]
        rw [if_neg (by simp)]
    | cons c t =>
      rw [trimLF_cons, rowsR, splitB, ih _ (by simp), ih _ (by simp)]
theorem literal_ref {l : List UInt8} (h : l ≠ []) : literalM l = (!whN (byt l 0) && decide (byt l 0 ≠ 10) && (decide (place l < 0) && (runes l).all printable) && ((rowsR [] l).all (fun r => !blankR r) && !((rowsR [] l).getLast?.getD []).isEmpty)) := by
  have he : l.isEmpty = false := by cases l with | nil => exact absurd rfl h | cons _ _ => rfl
  unfold literalM toldP rowsL
  rw [rowsR_is l [] h, he, Bool.not_false, Bool.true_and]
  generalize whN (byt l 0) = a
  generalize decide (byt l 0 ≠ 10) = b
  generalize decide (place l < 0) = c
  generalize (runes l).all printable = d
  generalize (splitB [] (trimLF l)).all (fun r => !blankR r) = e
  generalize ((splitB [] (trimLF l)).getLast?.getD []).isEmpty = f
  cases a <;> cases b <;> cases c <;> cases d <;> cases e <;> cases f <;> rfl
theorem show_ref (t : List UInt8) (st : Nat) (tag single bare flow : Bool) : showP t st tag single bare flow = if styleM t st tag single bare flow true = 1 then t else quoteM t single := by
  unfold showP
  split
  · rfl
  · rename_i h1
    unfold styleM at h1 ⊢
    by_cases hA : st = 1 ∧ (t = [] ∨ plainM t flow = true)
    · rw [if_pos hA] at h1; exact absurd rfl h1
    rw [if_neg hA, if_neg (fun h => by cases h.2.1)] at h1 ⊢
    by_cases hB : bare = true ∧ st ≠ 1 ∧ tag = false ∧ plainM t flow = true ∧ coreP t = wStr
    · rw [if_pos hB] at h1; exact absurd rfl h1
    rw [if_neg hB]
    by_cases hC : single = true ∧ singleM t = true
    · rw [if_pos hC, hC.1]
      rfl
    · rw [if_neg hC]
      unfold quoteM
      have : (single && singleM t) = false := by
        rw [Bool.eq_false_iff]
        intro h
        rw [Bool.and_eq_true] at h
        exact hC h
      rw [this]
      rfl
end U
end Go.Proofs.YtjfgcbikdibjeaaGreatDoor

/- Plain laws on what stands between: rows of comments, as they are made by hand, are passed in order. -/
namespace Go.Proofs.YtjfgcbikdibjeaaGreatDoor
namespace U
open Go

theorem drop_app {l a b : List UInt8} {p : Nat} (h : l.drop p = a ++ b) : l.drop (p + a.length) = b := by
  rw [← List.drop_drop, h, List.drop_left]
theorem byt_shape {l a b : List UInt8} {p j : Nat} (h : l.drop p = a ++ b) (hj : j < a.length) : byt l (p + j) = byt a j := by
  rw [← byt_drop, h, byt_append_left _ _ _ hj]
theorem len_shape {l a : List UInt8} {p : Nat} (h : l.drop p = a) (ha : a ≠ []) : l.length = p + a.length := by
  have e : (l.drop p).length = a.length := by rw [h]
  rw [List.length_drop] at e
  have : 0 < a.length := List.length_pos_iff.2 ha
  omega
theorem byt_rep (k : Nat) (b : UInt8) (j : Nat) (h : j < k) : byt (List.replicate k b) j = b.toNat := by
  unfold byt
  rw [List.getD_eq_getElem?_getD, List.getElem?_replicate, if_pos h]; rfl
theorem mark_not {l : List UInt8} {c f : Nat} (h : byt l f ≠ c) : markM l c f = false := by
  unfold markM
  rw [Bool.and_eq_false_iff]
  left; simp; omega
theorem kind_blank {l : List UInt8} {f : Nat} (h : byt l f = 10) : kindF l f = 1 := by
  unfold kindF
  rw [mark_not (by omega), mark_not (by omega), if_neg (by decide), if_neg (by decide), run_stop (by rw [h]; rfl), Nat.add_zero, if_pos (.inr h)]
theorem kind_note {l : List UInt8} {f k : Nat} (hk : run whN l f = k) (hb : k = 0 ∨ byt l f = 32) (h : byt l (f + k) = 35) : kindF l f = 2 := by
  have hl : f + k < l.length := by
    rcases Nat.lt_or_ge (f + k) l.length with h1 | h1
    · exact h1
    · rw [byt_ge l _ h1] at h; omega
  have h1 : byt l f = 35 ∨ byt l f = 32 := by
    rcases hb with hb | hb
    · subst hb; exact .inl h
    · exact .inr hb
  unfold kindF
  rw [mark_not (by omega), mark_not (by omega), if_neg (by decide), if_neg (by decide), hk, if_neg (by omega), if_pos h]
/-- Blank rows are passed. -/
theorem pass_feeds {l : List UInt8} {b0 : Nat} {row : Nat → Option Nat} (hrow : ∀ q, kindM l q = 1 ∨ kindM l q = 2 → row q = none) : ∀ (g p : Nat) (acc : Notes) (nr : Bool), (∀ j, j < g + 1 → byt l (p + j) = 10) →
    p + g < l.length → kindM l (p + g + 1) = 2 → passR l b0 row false p acc nr = passR l b0 row false (p + g + 1) acc nr := by
  intro g
  induction g with
  | zero =>
    intro p acc nr h hl hk
    have h0 := h 0 (by omega)
    simp only [Nat.add_zero] at h0 hl hk ⊢
    have hr := rowFrom_feed h0
    rw [passR_in, if_neg (by omega), if_neg (by rw [h0]; decide), if_pos h0, hrow _ (.inr hk)]
    show passR l b0 row true (p + 1) acc nr = _
    rw [passR_beg, if_neg (by omega)]
  | succ g ih =>
    intro p acc nr h hl hk
    have h0 := h 0 (by omega)
    have h1 := h 1 (by omega)
    simp only [Nat.add_zero] at h0
    have hr := rowFrom_feed h0
    have hk1 : kindM l (p + 1) = 1 := by unfold kindM; rw [hr]; exact kind_blank h1
    rw [passR_in, if_neg (by omega), if_neg (by rw [h0]; decide), if_pos h0, hrow _ (.inl hk1)]
    show passR l b0 row true (p + 1) acc nr = _
    rw [passR_beg, if_neg (by omega), ih (p + 1) acc nr (fun j hj => by rw [show p + 1 + j = p + (j + 1) by omega]; exact h _ (by omega)) (by omega) (by rw [show p + 1 + g + 1 = p + (g + 1) + 1 by omega]; exact hk), show p + 1 + g + 1 = p + (g + 1) + 1 by omega]
theorem above_feeds {l : List UInt8} : ∀ (g p : Nat), (∀ j, j < g + 1 → byt l (p + j) = 10) → kindM l p ≠ 1 → aboveR l (p + g + 1) = g := by
  intro g
  induction g with
  | zero =>
    intro p h hk
    rw [aboveR_step (by omega), Nat.add_zero, Nat.add_sub_cancel, if_neg hk]
  | succ g ih =>
    intro p h hk
    have h1 := h g (by omega)
    have h2 := h (g + 1) (by omega)
    have hr : rowFrom l (p + (g + 1)) = p + (g + 1) := by
      rw [show p + (g + 1) = p + g + 1 by omega]; exact rowFrom_feed h1
    rw [aboveR_step (by omega), Nat.add_sub_cancel, hr]
    have hk1 : kindM l (p + (g + 1)) = 1 := by unfold kindM; rw [hr]; exact kind_blank h2
    rw [if_pos hk1, show p + (g + 1) = p + g + 1 by omega, ih p (fun j hj => h j (by omega)) hk]
/-- Words without White at their ends. -/
def WordOK (w : List UInt8) : Prop := (∀ b ∈ w, b ≠ 10) ∧ cutW w = w
theorem cutW_blanks (w : List UInt8) (h : cutW w = w) : cutW (w ++ [32, 32]) = w := by
  have e : wh 32 = true := by decide
  have e2 : cutW (w ++ [32, 32]) = cutW w := by
    unfold cutW
    rw [List.reverse_append]
    show (List.dropWhile wh (32 :: 32 :: w.reverse)).reverse = _
    rw [List.dropWhile_cons, if_pos e, List.dropWhile_cons, if_pos e]
  rw [e2, h]
abbrev NRow := Nat × Nat × List UInt8
def nrow (r : NRow) : List UInt8 := [10] ++ List.replicate r.1 10 ++ List.replicate r.2.1 32 ++ [35] ++ r.2.2 ++ [32, 32]
def nrows (rs : List NRow) : List UInt8 := rs.flatMap nrow
def nwant (rs : List NRow) : Notes := rs.map fun r => (r.2.2, r.1)
theorem nrows_snoc (rs : List NRow) (r : NRow) : nrows (rs ++ [r]) = nrows rs ++ nrow r := by simp [nrows]
theorem nwant_snoc (rs : List NRow) (r : NRow) : nwant (rs ++ [r]) = nwant rs ++ [(r.2.2, r.1)] := by simp [nwant]
theorem pass_row {l : List UInt8} {row : Nat → Option Nat} (hrow : ∀ q, kindM l q = 1 ∨ kindM l q = 2 → row q = none) (r : NRow) (hw : WordOK r.2.2) {p : Nat} {X : List UInt8} (hX : l.drop p = nrow r ++ 10 :: X) (h1 : 1 ≤ p) (hk : kindM l p ≠ 1) (acc : Notes) (nr : Bool) (hnr : acc = [] → nr = false) :
    passR l 1 row false p acc nr = passR l 1 row false (p + (nrow r).length) (acc ++ [(r.2.2, r.1)]) nr ∧ kindM l (p + (nrow r).length) ≠ 1 := by
  obtain ⟨g, n, w⟩ := r
  simp only [nrow] at hX hk ⊢
  simp only [List.append_assoc] at hX
  have hL := len_shape hX (by simp)
  simp only [List.length_append, List.length_cons, List.length_nil, List.length_replicate] at hL ⊢
  have e0 : ([10] ++ List.replicate g 10 : List UInt8) = List.replicate (g + 1) 10 := rfl
  rw [← List.append_assoc, e0] at hX
  have D2 := drop_app hX
  rw [List.length_replicate] at D2
  have D3 := drop_app D2
  rw [List.length_replicate] at D3
  have D4 := drop_app D3
  have D5 : l.drop (p + (g + 1) + n + [(35 : UInt8)].length) = (w ++ [32, 32]) ++ 10 :: X := by rw [D4]; simp
  have D6 := drop_app D5
  simp only [List.length_cons, List.length_nil, List.length_append] at D5 D6
  have hf : ∀ j, j < g + 1 → byt l (p + j) = 10 := fun j hj => by rw [byt_shape hX (by rw [List.length_replicate]; exact hj), byt_rep _ _ _ hj]; rfl
  have hn : ∀ j, j < n → byt l (p + (g + 1) + j) = 32 := fun j hj => by rw [byt_shape D2 (by rw [List.length_replicate]; exact hj), byt_rep _ _ _ hj]; rfl
  have h35 : byt l (p + (g + 1) + n) = 35 := by exact byt_shape (j := 0) D3 (by simp)
  have hT : byt l (p + (g + 1) + n + 1 + (w.length + 2)) = 10 := by
    have := byt_drop l (p + (g + 1) + n + (0 + 1) + (w.length + (0 + 1 + 1))) 0
    rw [D6] at this
    rw [show p + (g + 1) + n + 1 + (w.length + 2) = p + (g + 1) + n + (0 + 1) + (w.length + (0 + 1 + 1)) + 0 by omega, ← this]; rfl
  have hin : ∀ j, p + (g + 1) + n ≤ j → j < p + (g + 1) + n + 1 + (w.length + 2) → byt l j ≠ 10 := by
    intro j ha hb
    rcases Nat.lt_or_ge j (p + (g + 1) + n + 1) with hj | hj
    · rw [show j = p + (g + 1) + n by omega, h35]; decide
    · obtain ⟨d, rfl⟩ : ∃ d, j = p + (g + 1) + n + (0 + 1) + d := ⟨j - (p + (g + 1) + n + 1), by omega⟩
      rw [byt_shape D5 (by simp; omega)]
      intro h10
      have hd : d < (w ++ [(32 : UInt8), 32]).length := by simp; omega
      have hg := byt_get (w ++ [(32 : UInt8), 32]) d hd
      have hm : (w ++ [(32 : UInt8), 32])[d] ∈ w ++ [(32 : UInt8), 32] := List.getElem_mem hd
      have : (w ++ [(32 : UInt8), 32])[d] = 10 := UInt8.toNat.inj (by rw [hg, h10]; rfl)
      rw [this] at hm
      rcases List.mem_append.1 hm with hm | hm
      · exact hw.1 _ hm rfl
      · simp at hm
  generalize hr : p + (g + 1) = r at *
  have hrl : p + g + 1 = r := by omega
  have hrf : rowFrom l r = r := by rw [← hrl]; exact rowFrom_feed (hf g (by omega))
  have hrun : run whN l r = n := run_is n r (by omega) (fun j ha hb => by rw [show j = r + (j - r) by omega, hn _ (by omega)]; rfl) (.inr (by rw [h35]; rfl))
  have hkr : kindF l r = 2 := kind_note hrun (by
    rcases Nat.eq_zero_or_pos n with h0 | h0
    · exact .inl h0
    · have := hn 0 h0; rw [Nat.add_zero] at this; exact .inr this) h35
  have hrow2 : rowFrom l (r + n) = r := by
    rw [rowFrom_same (p := r) (by omega) (fun j ha hb => by rw [show j = r + (j - r) by omega, hn _ (by omega)]; decide), hrf]
  have hto : rowTo l (r + n) = r + n + 1 + (w.length + 2) := rowTo_is (by omega) (by omega) (.inr hT) hin
  have hnote : isNote l (r + n) = true := by
    unfold isNote endsM
    rw [h35]
    have : whN (byt l (r + n - 1)) = true ∨ byt l (r + n - 1) = 10 := by
      rcases Nat.eq_zero_or_pos n with h0 | h0
      · right
        rw [show r + n - 1 = p + g by omega]; exact hf g (by omega)
      · left
        rw [show r + n - 1 = r + (n - 1) by omega, hn _ (by omega)]; rfl
    rcases this with h | h <;> simp [h]
  have htx : noteTx l (r + n) = w := by
    unfold noteTx
    rw [hto, show r + n + 1 + (w.length + 2) - (r + n + 1) = (w ++ [(32 : UInt8), 32]).length by simp, show r + n + 1 = r + n + (0 + 1) by omega, D5, List.take_left]
    exact cutW_blanks w hw.2
  have hab : aboveM l (r + n) = g := by
    unfold aboveM firstM
    rw [hrow2, hrun, if_neg (by omega), ← hrl]
    exact above_feeds g p hf hk
  have hend : rowFrom l (r + n + 1 + (w.length + 2)) = r := by
    rw [rowFrom_same (p := r + n) (by omega) hin, hrow2]
  have hq : p + (0 + 1 + (g + (n + (0 + 1 + (w.length + (0 + 1 + 1)))))) = r + n + 1 + (w.length + 2) := by omega
  have hq2 : p + (0 + 1 + g + n + (0 + 1) + w.length + (0 + 1 + 1)) = r + n + 1 + (w.length + 2) := by omega
  have hkend : kindM l (r + n + 1 + (w.length + 2)) ≠ 1 := by unfold kindM; rw [hend, hkr]; decide
  have key : passR l 1 row false p acc nr = passR l 1 row false (r + n + 1 + (w.length + 2)) (acc ++ [(w, g)]) nr := by
    rw [pass_feeds hrow g p acc nr hf (by omega) (by rw [hrl]; unfold kindM; rw [hrf]; exact hkr), hrl, pass_white n r acc nr (by omega), passR_in, if_neg (by omega), h35, if_neg (by decide), if_neg (by decide), if_pos hnote, hto, htx, hab, hrow2]
    congr 1
    split
    · rename_i he
      rw [hnr (by simpa using he)]
      simp; omega
    · rfl
  first
    | exact ⟨by rw [key, hq2], by rw [hq2]; exact hkend⟩
    | exact ⟨by rw [key, hq], by rw [hq]; exact hkend⟩
theorem pass_rows {l : List UInt8} {row : Nat → Option Nat} (hrow : ∀ q, kindM l q = 1 ∨ kindM l q = 2 → row q = none) : ∀ (rs : List NRow), (∀ r ∈ rs, WordOK r.2.2) → ∀ {p : Nat} {X : List UInt8}, l.drop p = nrows rs ++ 10 :: X → 1 ≤ p → kindM l p ≠ 1 → ∀ (acc : Notes) (nr : Bool), (acc = [] → nr = false) →
    passR l 1 row false p acc nr = passR l 1 row false (p + (nrows rs).length) (acc ++ nwant rs) nr ∧ kindM l (p + (nrows rs).length) ≠ 1 := by
  intro rs
  induction rs with
  | nil => intro _ p X _ _ hk acc nr _; simp [nrows, nwant]; exact hk
  | cons r rs ih =>
    intro hw p X hX h1 hk acc nr hnr
    have e : nrows (r :: rs) = nrow r ++ nrows rs := by simp [nrows]
    have e2 : nwant (r :: rs) = (r.2.2, r.1) :: nwant rs := by simp [nwant]
    rw [e, List.append_assoc] at hX
    have hX2 : ∃ Y, nrows rs ++ 10 :: X = 10 :: Y := by
      cases rs with
      | nil => exact ⟨_, rfl⟩
      | cons r2 rs2 => exact ⟨_, by simp [nrows, nrow]; rfl⟩
    obtain ⟨Y, hY⟩ := hX2
    have hX3 := hX
    rw [hY] at hX3
    obtain ⟨ha, hb⟩ := pass_row hrow r (hw r (by simp)) hX3 h1 hk acc nr hnr
    have hD := drop_app hX
    obtain ⟨hc, hd⟩ := ih (fun r hr => hw r (by simp [hr])) hD (by omega) hb (acc ++ [(r.2.2, r.1)]) nr (by simp)
    rw [ha, hc, e, e2, List.length_append, ← Nat.add_assoc]
    exact ⟨by simp, hd⟩
end U
end Go.Proofs.YtjfgcbikdibjeaaGreatDoor

/- Plain laws on block scalars: rows that are in by as much each. -/
namespace Go.Proofs.YtjfgcbikdibjeaaGreatDoor
namespace U
open Go

/-- A row that stands in a text. -/
structure RowAt (l : List UInt8) (p : Nat) (row rest : List UInt8) : Prop where
  drop : l.drop p = row ++ [10] ++ rest
  none : ∀ b ∈ row, b ≠ 10
  start : rowFrom l p = p
theorem RowAt.len {l : List UInt8} {p : Nat} {row rest : List UInt8} (h : RowAt l p row rest) : l.length = p + row.length + 1 + rest.length := by
  have := len_shape h.drop (by simp)
  simp only [List.length_append, List.length_singleton] at this
  omega
theorem RowAt.byte {l : List UInt8} {p : Nat} {row rest : List UInt8} (h : RowAt l p row rest) {j : Nat} (hj : j < row.length) : byt l (p + j) = byt row j := by
  have h := h.drop
  rw [List.append_assoc] at h
  exact byt_shape h hj
theorem RowAt.feed {l : List UInt8} {p : Nat} {row rest : List UInt8} (h : RowAt l p row rest) : byt l (p + row.length) = 10 := by
  have e := byt_shape (j := row.length) h.drop (by simp)
  rw [e, byt_append_right _ _ _ (Nat.le_refl _), Nat.sub_self]
  rfl
theorem byt_has {m : List UInt8} {j : Nat} (h : j < m.length) : ∃ b ∈ m, byt m j = b.toNat := ⟨m[j], List.getElem_mem h, (byt_get _ _ h).symm⟩
theorem RowAt.to {l : List UInt8} {p : Nat} {row rest : List UInt8} (h : RowAt l p row rest) : rowTo l p = p + row.length := by
  have hl := h.len
  refine rowTo_is (by omega) (by omega) (.inr h.feed) fun j h1 h2 => ?_
  obtain ⟨i, rfl⟩ : ∃ i, j = p + i := ⟨j - p, by omega⟩
  rw [h.byte (by omega)]
  obtain ⟨b, hb, e⟩ := byt_has (m := row) (j := i) (by omega)
  rw [e]
  intro hx
  exact h.none b hb (UInt8.toNat_inj.1 hx)
theorem RowAt.row {l : List UInt8} {p : Nat} {row rest : List UInt8} (h : RowAt l p row rest) : rowM l p = row := by
  unfold rowM
  rw [h.start, h.to, h.drop, show p + row.length - p = row.length by omega, List.append_assoc, List.take_left']
  rfl
theorem RowAt.next {l : List UInt8} {p : Nat} {row rest : List UInt8} (h : RowAt l p row rest) : nextM l p = p + row.length + 1 := by
  have := h.len
  unfold nextM
  rw [h.to]
  omega
theorem RowAt.rest {l : List UInt8} {p : Nat} {row rest : List UInt8} (h : RowAt l p row rest) : l.drop (p + row.length + 1) = rest := by
  have := drop_app h.drop
  rw [List.length_append, List.length_singleton] at this
  exact this
theorem RowAt.from {l : List UInt8} {p : Nat} {row rest : List UInt8} (h : RowAt l p row rest) : rowFrom l (p + row.length + 1) = p + row.length + 1 := rowFrom_feed h.feed
theorem RowAt.far {l : List UInt8} {p : Nat} {row rest : List UInt8} (h : RowAt l p row rest) {w : Nat} (hw : w ≤ row.length) (hb : ∀ j, j < w → byt row j = 32) : w ≤ inM l p := by
  have hl := h.len
  unfold inM
  rw [h.start]
  rcases Nat.lt_or_ge (run blankN l p) w with hc | hc
  · exfalso
    have := run_off (P := blankN) (l := l) _ p rfl (by omega)
    rw [h.byte (by omega), hb _ hc] at this
    cases this
  · exact hc
theorem RowAt.in {l : List UInt8} {p : Nat} {row rest : List UInt8} (h : RowAt l p row rest) {w : Nat} (hw : w < row.length) (hb : ∀ j, j < w → byt row j = 32) (hn : byt row w ≠ 32) : inM l p = w := by
  have hl := h.len
  unfold inM
  rw [h.start]
  refine run_is w p (by omega) (fun j h1 h2 => ?_) (.inr ?_)
  · obtain ⟨i, rfl⟩ : ∃ i, j = p + i := ⟨j - p, by omega⟩
    rw [h.byte (by omega), hb _ (by omega)]
    rfl
  · rw [h.byte hw]
    exact decide_eq_false hn
theorem RowAt.blank {l : List UInt8} {p : Nat} {row rest : List UInt8} (h : RowAt l p row rest) : blankB l p = row.all fun b => decide (b.toNat = 32) := by
  unfold blankB
  rw [h.row]
theorem RowAt.notMark {l : List UInt8} {p : Nat} {row rest : List UInt8} (h : RowAt l p row rest) (hb : byt row 0 ≠ 45 ∧ byt row 0 ≠ 46) : markB l p = false := by
  cases hm : markB l p with
  | false => rfl
  | true =>
    exfalso
    have := mark_byte hm
    rw [h.start] at this
    rcases Nat.eq_zero_or_pos row.length with h0 | h0
    · have hf := h.feed
      rw [h0, Nat.add_zero] at hf
      omega
    · have := h.byte (j := 0) h0
      rw [Nat.add_zero] at this
      omega

/-! ### Rows that are in by as much each. -/
def rawR (w : Nat) (x : List UInt8) : List UInt8 := if x = [] then [] else List.replicate w 32 ++ x
def linesR (w : Nat) (xs : List (List UInt8)) : List UInt8 := xs.flatMap fun x => rawR w x ++ [10]
def fullR (n : Nat) : List (List UInt8) → Nat → Nat
  | [], full => full
  | x :: t, full => fullR (n + 1) t (if x = [] then full else n + 1)
def feedsR : List (List UInt8) → Nat → Nat
  | [], feeds => feeds
  | x :: t, feeds => feedsR t ((if x = [] then feeds else 0) + 1)
theorem byt_rep' {w j : Nat} {x : List UInt8} (h : j < w) : byt (List.replicate w 32 ++ x) j = 32 := by
  rw [byt_append_left _ _ _ (by rw [List.length_replicate]; exact h), byt_rep _ _ _ h]
  rfl
theorem linesR_cons (w : Nat) (x : List UInt8) (t : List (List UInt8)) : linesR w (x :: t) = rawR w x ++ [10] ++ linesR w t := by simp [linesR]
theorem linesR_append (w : Nat) (a b : List (List UInt8)) : linesR w (a ++ b) = linesR w a ++ linesR w b := by simp [linesR]
theorem raw_at {l : List UInt8} {w p : Nat} {x rest : List UInt8} (hx : ∀ b ∈ x, b ≠ 10) (hd : l.drop p = rawR w x ++ [10] ++ rest) (hf : rowFrom l p = p) : RowAt l p (rawR w x) rest := by
  refine ⟨hd, fun b hb => ?_, hf⟩
  unfold rawR at hb
  split at hb
  · cases hb
  · rcases List.mem_append.1 hb with h | h
    · rw [List.eq_of_mem_replicate h]; decide
    · exact hx b h
theorem raw_ok {l : List UInt8} {w p : Nat} (hw : 1 ≤ w) {x rest : List UInt8} (h : RowAt l p (rawR w x) rest) : okB l w p = true ∧ textB l w p = x := by
  have hl := h.len
  unfold okB textB
  rw [h.row]
  by_cases hx : x = []
  · subst hx
    have hb : blankB l p = true := by rw [h.blank]; rfl
    rw [blank_mark (by omega) hb, hb]
    exact ⟨rfl, by simp [rawR]⟩
  · have e : rawR w x = List.replicate w 32 ++ x := if_neg hx
    have hb : ∀ j, j < w → byt (rawR w x) j = 32 := fun j hj => by rw [e]; exact byt_rep' hj
    have h0 := hb 0 (by omega)
    rw [h.notMark (by omega), decide_eq_true (h.far (w := w) (by rw [e]; simp) hb), e, Bool.or_true]
    refine ⟨rfl, ?_⟩
    rw [List.drop_left' (by simp)]
theorem go_lines {l : List UInt8} {w : Nat} (hw : 1 ≤ w) : ∀ (xs : List (List UInt8)) (p : Nat) (acc : List (List UInt8)) (full feeds : Nat) (rest : List UInt8), (∀ x ∈ xs, ∀ b ∈ x, b ≠ 10) →
    l.drop p = linesR w xs ++ rest → rowFrom l p = p →
    goM l w p acc full feeds = goM l w (p + (linesR w xs).length) (acc ++ xs) (fullR acc.length xs full) (feedsR xs feeds) ∧ rowFrom l (p + (linesR w xs).length) = p + (linesR w xs).length := by
  intro xs
  induction xs with
  | nil => intro p acc full feeds rest _ _ hf; simp [linesR, fullR, feedsR, hf]
  | cons x t ih =>
    intro p acc full feeds rest hx hd hf
    rw [linesR_cons, List.append_assoc] at hd
    have hr := raw_at (hx x (by simp)) hd hf
    have hl := hr.len
    obtain ⟨h1, h2⟩ := raw_ok hw hr
    rw [go_go (by omega) h1, h2, hr.next]
    obtain ⟨h3, h4⟩ := ih (p + (rawR w x).length + 1) (acc ++ [x]) (if x = [] then full else acc.length + 1) ((if x = [] then feeds else 0) + if rowTo l p < l.length then 1 else 0) rest
      (fun y hy => hx y (by simp [hy])) hr.rest hr.from
    have e : p + (rawR w x).length + 1 + (linesR w t).length = p + (linesR w (x :: t)).length := by
      rw [linesR_cons]; simp only [List.length_append, List.length_singleton]; omega
    rw [e] at h3 h4
    refine ⟨?_, h4⟩
    rw [h3, if_pos (show rowTo l p < l.length by rw [hr.to]; omega), fullR, feedsR, List.append_assoc, List.singleton_append, List.length_append, List.length_singleton]
theorem fullR_blank : ∀ (g n full : Nat), fullR n (List.replicate g []) full = full
  | 0, _, _ => rfl
  | g + 1, n, full => by rw [List.replicate_succ, fullR, if_pos rfl, fullR_blank g]
theorem feedsR_blank : ∀ (g f : Nat), feedsR (List.replicate g []) f = g + f
  | 0, _ => by simp [feedsR]
  | g + 1, f => by rw [List.replicate_succ, feedsR, if_pos rfl, feedsR_blank g]; omega
theorem fullR_last (y : List UInt8) (hy : y ≠ []) (g : Nat) : ∀ (ys : List (List UInt8)) (n full : Nat), fullR n (ys ++ [y] ++ List.replicate g []) full = n + ys.length + 1
  | [], n, full => by
    rw [List.nil_append, List.singleton_append, fullR, if_neg hy, fullR_blank]; rfl
  | z :: ys, n, full => by
    rw [List.cons_append, List.cons_append, fullR, fullR_last y hy g ys, List.length_cons]; omega
theorem feedsR_last (y : List UInt8) (hy : y ≠ []) (g : Nat) : ∀ (ys : List (List UInt8)) (f : Nat), feedsR (ys ++ [y] ++ List.replicate g []) f = g + 1
  | [], f => by
    rw [List.nil_append, List.singleton_append, feedsR, if_neg hy, feedsR_blank]
  | z :: ys, f => by
    rw [List.cons_append, List.cons_append, feedsR, feedsR_last y hy g ys]
theorem joinB_feed : ∀ (xs : List (List UInt8)), xs ≠ [] → joinB xs ++ [10] = xs.flatMap fun x => x ++ [10]
  | [], h => absurd rfl h
  | [x], _ => by simp [joinB]
  | x :: y :: t, _ => by
    rw [joinB_two, List.append_assoc, joinB_feed (y :: t) (by simp)]
    simp
/-- Where the first row is not blank. -/
theorem width_at {l : List UInt8} {w p : Nat} {n : Int} (hw : 1 ≤ w) {x rest : List UInt8} (h : RowAt l p (rawR w x) rest) (hx : x ≠ []) (h0 : byt x 0 ≠ 32) (hn : n < w) :
    frontM l p = p ∧ widthM l p n = w := by
  have hl := h.len
  have e : rawR w x = List.replicate w 32 ++ x := if_neg hx
  have hxl : 0 < x.length := List.length_pos_iff.2 hx
  have hb : ∀ j, j < w → byt (rawR w x) j = 32 := fun j hj => by rw [e]; exact byt_rep' hj
  have hw' : byt (rawR w x) w = byt x 0 := by
    rw [e, byt_append_right _ _ _ (by simp), List.length_replicate, Nat.sub_self]
  have hin : inM l p = w := h.in (by rw [e]; simp; omega) hb (by omega)
  have hnb : blankB l p = false := by
    rw [blank_in (by omega), hin, h.start, h.to, e]
    exact decide_eq_false (by simp; omega)
  have hf : frontM l p = p := front_stop (by rw [hnb]; simp)
  refine ⟨hf, ?_⟩
  have h00 := hb 0 (by omega)
  unfold widthM
  rw [hf, hin, if_pos ⟨by omega, h.notMark (by omega), by omega⟩]

end U
end Go.Proofs.YtjfgcbikdibjeaaGreatDoor
/- Plain laws on block scalars: what is read from rows that are in by as much each. -/
namespace Go.Proofs.YtjfgcbikdibjeaaGreatDoor
namespace U
open Go

theorem hd_none {l : List UInt8} {p : Nat} (h : ¬ (49 ≤ byt l p ∧ byt l p ≤ 57) ∧ byt l p ≠ 43 ∧ byt l p ≠ 45) : hdM l p = (0, 0, p) := by
  have e : hdStep l (0, 0, p) = (0, 0, p) := by
    unfold hdStep
    rw [if_neg (by simp only []; omega), if_neg (by simp only []; omega)]
  show hdStep l (hdStep l (0, 0, p)) = _
  rw [e, e]
theorem hd_sign {l : List UInt8} {p : Nat} (h : byt l p = 43 ∨ byt l p = 45) (h2 : ¬ (49 ≤ byt l (p + 1) ∧ byt l (p + 1) ≤ 57)) : hdM l p = (0, byt l p, p + 1) := by
  have e : hdStep l (0, 0, p) = (0, byt l p, p + 1) := by
    unfold hdStep
    rw [if_neg (by simp only []; omega), if_pos ⟨rfl, h⟩]
  show hdStep l (hdStep l (0, 0, p)) = _
  rw [e]
  unfold hdStep
  rw [if_neg (fun x => h2 ⟨x.2.1, x.2.2⟩), if_neg (fun x => by have := x.1; simp only [] at this; omega)]
/-- Nothing stands behind the header. -/
theorem bare_end {l : List UInt8} {p : Nat} (h : byt l (hdM l p).2.2 = 10) (hp : p ≤ l.length) : rowTo l p = (hdM l p).2.2 ∧ hdBad l p = false ∧ hdHas l p = false ∧ hdTrail l p = [] := by
  obtain ⟨h1, h2, -, -, h5⟩ := hdM_is hp
  have hr : run whN l (hdM l p).2.2 = 0 := run_stop (by rw [h]; rfl)
  have ht : rowTo l (hdM l p).2.2 = (hdM l p).2.2 := by
    unfold rowTo
    rw [run_stop (by rw [h]; rfl), Nat.add_zero]
  have hh : hdHas l p = false := by
    unfold hdHas hdEnd
    rw [hr, ← h5, ht]
    exact decide_eq_false (by omega)
  refine ⟨by rw [← h5, ht], ?_, hh, ?_⟩
  · unfold hdBad
    unfold hdHas at hh
    exact decide_eq_false (fun x => (of_decide_eq_false hh) x.1)
  · unfold hdTrail
    rw [hh]; rfl
theorem stop_end {l : List UInt8} {w p : Nat} (h : l.length ≤ p) : ¬ (p < l.length ∧ okB l w p = true) := by omega
/-- A row that is not far enough in. -/
theorem stop_row {l : List UInt8} {w p k : Nat} {row rest : List UInt8} (h : RowAt l p row rest) (hk : k < row.length) (hb : ∀ j, j < k → byt row j = 32) (hn : byt row k ≠ 32) (hw : k < w) :
    ¬ (p < l.length ∧ okB l w p = true) := by
  have hl := h.len
  rintro ⟨-, ho⟩
  have hin := h.in hk hb hn
  unfold okB at ho
  rw [blank_in (by omega), hin, h.start, h.to, decide_eq_false (by omega), decide_eq_false (by omega)] at ho
  simp at ho
theorem told_is (ys : List (List UInt8)) (y : List UInt8) (g : Nat) (folded : Bool) (keep : Nat) :
    toldM (ys ++ [y]) (g + 1) folded keep = blockM (ys ++ [y]) folded ++ List.replicate (if keep = 45 then 0 else if keep = 0 then 1 else g + 1) 10 := by
  unfold toldM feedsM
  rw [List.length_append, List.length_singleton, if_neg (show ¬ ys.length + 1 = 0 by omega), show min (g + 1) 1 = 1 by omega]
theorem bloc_lines {l : List UInt8} {n : Int} {w t keep e g : Nat} {x0 y : List UInt8} {xs tl ys : List (List UInt8)} {rest : List UInt8}
    (hs : startB l 0 = true) (hh : hdM l 1 = (0, keep, e)) (hbad : hdBad l 1 = false) (ht : rowTo l 1 = t) (htl : t < l.length) (hw : 1 ≤ w) (hn : n < w)
    (hx : ∀ x ∈ xs, ∀ b ∈ x, b ≠ 10) (hx1 : xs = x0 :: tl) (h0 : x0 ≠ []) (h32 : byt x0 0 ≠ 32) (hx2 : xs = ys ++ [y] ++ List.replicate g []) (hy : y ≠ [])
    (hd : l.drop (t + 1) = linesR w xs ++ rest) (hstop : ¬ (t + 1 + (linesR w xs).length < l.length ∧ okB l w (t + 1 + (linesR w xs).length) = true)) :
    blocM l 0 n = (⟨1, if folds l 0 then 5 else 4, 0, hdHas l 1, hdTrail l 1, toldM (ys ++ [y]) (g + 1) (folds l 0) keep⟩, ((t + 1 + (linesR w xs).length : Nat) : Int), 0) := by
  have h10 : byt l t = 10 := by rw [← ht]; exact rowTo_off (by rw [ht]; exact htl)
  have hf : rowFrom l (t + 1) = t + 1 := rowFrom_feed h10
  have hd1 := hd
  rw [hx1, linesR_cons, List.append_assoc] at hd1
  have hr := raw_at (hx x0 (by rw [hx1]; simp)) hd1 hf
  obtain ⟨hfr, hwd⟩ := width_at hw hr h0 h32 hn
  have hb : min (rowTo l (0 + 1) + 1) l.length = t + 1 := by
    show min (rowTo l 1 + 1) l.length = t + 1
    rw [ht]
    have := hr.len
    omega
  obtain ⟨hg, -⟩ := go_lines hw xs (t + 1) [] 0 0 rest hx hd hf
  rw [go_stop hstop, List.nil_append, hx2, List.length_nil, fullR_last y hy, feedsR_last y hy, ← hx2] at hg
  have hbm : bodyM l (t + 1) 0 n = (xs, 0 + ys.length + 1, g + 1, t + 1 + (linesR w xs).length) := by
    unfold bodyM bodyW
    rw [if_pos rfl, hwd]
    exact hg
  have hbt : bodyToo l (t + 1) 0 n = none := by
    unfold bodyToo
    rw [if_pos rfl, hwd, hfr]
    exact too_end (Nat.le_refl _)
  have htk : xs.take (0 + ys.length + 1) = ys ++ [y] := by
    rw [hx2, List.take_left' (by simp)]
  unfold blocM
  rw [if_pos hs]
  unfold blocOf
  simp only [Int.toNat_zero]
  rw [hb, show (0 + 1 : Nat) = 1 from rfl, hbad, hh, if_neg (by decide)]
  simp only []
  rw [hbt]
  simp only []
  rw [hbm]
  simp only []
  rw [htk]
  rfl

/-! ### Texts and blank rows between. -/
def rowsU (f : Nat → List UInt8 × Nat) : Nat → List (List UInt8)
  | 0 => []
  | i + 1 => rowsU f i ++ ((f i).1 :: List.replicate (f i).2 [])
def flatU (xs : List (List UInt8)) : List UInt8 := xs.flatMap fun x => x ++ [10]
theorem linesR_rep (w g : Nat) : linesR w (List.replicate g []) = List.replicate g 10 := by
  induction g with
  | zero => rfl
  | succ g ih => rw [List.replicate_succ, linesR_cons, ih, List.replicate_succ]; rfl
theorem flatU_rep (g : Nat) : flatU (List.replicate g []) = List.replicate g 10 := by
  induction g with
  | zero => rfl
  | succ g ih =>
    have : flatU ([] :: List.replicate g []) = [10] ++ flatU (List.replicate g []) := by simp [flatU]
    rw [List.replicate_succ, this, ih, List.replicate_succ]; rfl
theorem flatU_append (a b : List (List UInt8)) : flatU (a ++ b) = flatU a ++ flatU b := by simp [flatU]
theorem rowsU_lines (f : Nat → List UInt8 × Nat) (w i : Nat) (h : (f i).1 ≠ []) : linesR w (rowsU f (i + 1)) = linesR w (rowsU f i) ++ List.replicate w 32 ++ (f i).1 ++ [10] ++ List.replicate (f i).2 10 := by
  rw [rowsU, linesR_append, linesR_cons, linesR_rep, rawR, if_neg h]
  simp
theorem rowsU_flat (f : Nat → List UInt8 × Nat) (i : Nat) : flatU (rowsU f (i + 1)) = flatU (rowsU f i) ++ (f i).1 ++ [10] ++ List.replicate (f i).2 10 := by
  have e : flatU ((f i).1 :: List.replicate (f i).2 []) = (f i).1 ++ [10] ++ flatU (List.replicate (f i).2 []) := by simp [flatU]
  rw [rowsU, flatU_append, e, flatU_rep]
  simp
theorem rowsU_head (f : Nat → List UInt8 × Nat) : ∀ i, 0 < i → ∃ tl, rowsU f i = (f 0).1 :: tl
  | 1, _ => ⟨_, rfl⟩
  | i + 2, _ => by
    obtain ⟨tl, h⟩ := rowsU_head f (i + 1) (by omega)
    exact ⟨_, by rw [rowsU, h, List.cons_append]⟩
theorem rowsU_mem (f : Nat → List UInt8 × Nat) : ∀ i, ∀ x ∈ rowsU f i, x = [] ∨ ∃ j, j < i ∧ x = (f j).1
  | 0, x, h => by cases h
  | i + 1, x, h => by
    rw [rowsU] at h
    rcases List.mem_append.1 h with h | h
    · rcases rowsU_mem f i x h with h | ⟨j, hj, h⟩
      · exact .inl h
      · exact .inr ⟨j, by omega, h⟩
    · rcases List.mem_cons.1 h with h | h
      · exact .inr ⟨i, by omega, h⟩
      · exact .inl (List.eq_of_mem_replicate h)
/-- What a literal of such rows is told as. -/
def wantU (f : Nat → List UInt8 × Nat) (i k : Nat) : List UInt8 :=
  if k < 2 then (flatU (rowsU f (i + 1))).take ((flatU (rowsU f (i + 1))).length - (f i).2 - 1) ++ (if k = 0 then [10] else []) else flatU (rowsU f (i + 1))
def keepU (k : Nat) : Nat := if k = 0 then 0 else if k = 1 then 45 else 43
theorem want_is (f : Nat → List UInt8 × Nat) (i k : Nat) (hk : k < 3) : toldM (rowsU f i ++ [(f i).1]) ((f i).2 + 1) false (keepU k) = wantU f i k := by
  have hj := joinB_feed (rowsU f i ++ [(f i).1]) (by simp)
  have hfl : flatU (rowsU f (i + 1)) = joinB (rowsU f i ++ [(f i).1]) ++ [10] ++ List.replicate (f i).2 10 := by
    rw [hj, rowsU_flat]
    show _ = flatU _ ++ _
    rw [flatU_append]
    simp [flatU]
  have hb : blockM (rowsU f i ++ [(f i).1]) false = joinB (rowsU f i ++ [(f i).1]) := rfl
  have hl : (flatU (rowsU f (i + 1))).length - (f i).2 - 1 = (joinB (rowsU f i ++ [(f i).1])).length := by
    rw [hfl]; simp only [List.length_append, List.length_replicate, List.length_singleton]; omega
  have ht : (flatU (rowsU f (i + 1))).take ((flatU (rowsU f (i + 1))).length - (f i).2 - 1) = joinB (rowsU f i ++ [(f i).1]) := by
    rw [hl, hfl, List.append_assoc, List.take_left']
    rfl
  rw [told_is, hb]
  unfold wantU
  rw [ht, hfl]
  unfold keepU
  rcases (by omega : k = 0 ∨ k = 1 ∨ k = 2) with rfl | rfl | rfl
  · simp
  · simp
  · simp only [Nat.reduceEqDiff, if_false, Nat.reduceLT, List.append_assoc, List.replicate_succ]
    rfl

end U
end Go.Proofs.YtjfgcbikdibjeaaGreatDoor
/- Plain law: what may stand in rows is read from them as it is, however far in they are. -/
namespace Go.Proofs.YtjfgcbikdibjeaaGreatDoor
namespace U
open Go

/-- A text's bytes, each row of it so far in. -/
def litF (w : Nat) : Bool → List UInt8 → List UInt8
  | _, [] => []
  | g, b :: t => (if g = true ∧ b ≠ 10 then List.replicate w 32 else []) ++ b :: litF w (decide (b = 10)) t
theorem lit_lines (w : Nat) : ∀ (t cur : List UInt8), linesR w (splitB cur t) = (if cur = [] then litF w true t else List.replicate w 32 ++ cur ++ litF w false t) ++ [10] := by
  intro t
  induction t with
  | nil =>
    intro cur
    rw [splitB, litF, litF]
    simp [linesR, rawR]
  | cons b t ih =>
    intro cur
    by_cases hb : b = 10
    · subst hb
      rw [splitB, if_pos rfl, linesR_cons, ih [], if_pos rfl, litF, litF]
      rw [if_neg (show ¬ (true = true ∧ (10 : UInt8) ≠ 10) by decide), if_neg (show ¬ (false = true ∧ (10 : UInt8) ≠ 10) by decide)]
      rw [show decide ((10 : UInt8) = 10) = true from rfl]
      unfold rawR
      split <;> simp
    · rw [splitB, if_neg hb, ih, if_neg (by simp)]
      by_cases hc : cur = []
      · subst hc
        rw [if_pos rfl, litF, if_pos ⟨rfl, hb⟩, decide_eq_false hb]
        simp
      · rw [if_neg hc, litF, if_neg (fun h => by cases h.1), decide_eq_false hb]
        simp
theorem splitB_feed : ∀ (m cur : List UInt8), (∀ b ∈ cur, b ≠ 10) → ∀ x ∈ splitB cur m, ∀ b ∈ x, b ≠ 10 := by
  intro m
  induction m with
  | nil =>
    intro cur h x hx
    rw [splitB] at hx
    obtain rfl := List.mem_singleton.1 hx
    exact h
  | cons b t ih =>
    intro cur h x hx
    rw [splitB] at hx
    by_cases hb : b = 10
    · rw [if_pos hb] at hx
      rcases List.mem_cons.1 hx with rfl | hx
      · exact h
      · exact ih [] (fun _ h => by cases h) x hx
    · rw [if_neg hb] at hx
      refine ih _ (fun y hy => ?_) x hx
      rcases List.mem_append.1 hy with hy | hy
      · exact h y hy
      · obtain rfl := List.mem_singleton.1 hy
        exact hb
theorem joinB_split : ∀ (m cur : List UInt8), joinB (splitB cur m) = cur ++ m := by
  intro m
  induction m with
  | nil => intro cur; rw [splitB, List.append_nil]; rfl
  | cons b t ih =>
    intro cur
    rw [splitB]
    by_cases hb : b = 10
    · rw [if_pos hb]
      obtain ⟨x, xs, h⟩ : ∃ x xs, splitB [] t = x :: xs := by
        cases hs : splitB [] t with
        | nil => exact absurd hs (splitB_ne _ _)
        | cons x xs => exact ⟨x, xs, rfl⟩
      rw [h, joinB_two, ← h, ih [], hb]
      simp
    · rw [if_neg hb, ih]
      simp
def litH (s : List UInt8) : List UInt8 := if s.getLast? = some 10 then [124] else [124, 45]
theorem literal_law {s rest : List UInt8} {w : Nat} (h : literalM s = true) (hw : 1 ≤ w) (hr : rest = [] ∨ rest = [35, 32, 122, 10, 121, 58, 32, 120, 10]) :
    blocM (litH s ++ [10] ++ litF w true (trimLF s) ++ [10] ++ rest) 0 (-1) = (⟨1, 4, 0, false, [], s⟩, (((litH s).length + 1 + (litF w true (trimLF s)).length + 1 : Nat) : Int), 0) := by
  unfold literalM at h
  simp only [Bool.and_eq_true, Bool.not_eq_true', decide_eq_true_eq] at h
  obtain ⟨⟨⟨⟨⟨h1, h2⟩, h3⟩, -⟩, -⟩, h6⟩ := h
  have hlin := lit_lines w (trimLF s) []
  rw [if_pos rfl] at hlin
  obtain ⟨xs, hxs⟩ : ∃ xs, splitB [] (trimLF s) = xs := ⟨_, rfl⟩
  have hjoin := joinB_split (trimLF s) []
  have hfeed := splitB_feed (trimLF s) [] (fun _ h => by cases h)
  unfold rowsL at h6
  rw [hxs] at hlin hjoin hfeed h6
  have hx0 : ∃ x0 tl, xs = x0 :: tl ∧ x0 ≠ [] ∧ byt x0 0 ≠ 32 := by
    have hs0 : s ≠ [] := by intro h; rw [h] at h1; cases h1
    have ht : ∃ b t, trimLF s = b :: t ∧ b.toNat ≠ 32 ∧ b ≠ 10 := by
      cases s with
      | nil => exact absurd rfl hs0
      | cons b t =>
        have hb32 : b.toNat ≠ 32 := fun h => by
          rw [byt_zero, h] at h2
          cases h2
        have hb10 : b ≠ 10 := fun h => h3 (by rw [byt_zero, h]; rfl)
        cases t with
        | nil => exact ⟨b, [], by unfold trimLF; rw [if_neg (by simpa using hb10)], hb32, hb10⟩
        | cons c t => exact ⟨b, trimLF (c :: t), by unfold trimLF; rw [List.getLast?_cons_cons]; split <;> rfl, hb32, hb10⟩
    obtain ⟨b, t, ht, hb32, hb10⟩ := ht
    obtain ⟨x, tl, -, hsp⟩ := split_feed t [b]
    refine ⟨[b] ++ x, tl, ?_, by simp, hb32⟩
    rw [← hxs, ht, splitB, if_neg hb10]
    exact hsp
  obtain ⟨x0, tl, hx1, hx0n, hx32⟩ := hx0
  have hne : xs ≠ [] := by rw [hx1]; simp
  have hlast : xs = xs.dropLast ++ [xs.getLast hne] := (List.dropLast_concat_getLast hne).symm
  have hy : xs.getLast hne ≠ [] := by
    intro hc
    rw [List.getLast?_eq_some_getLast hne, hc] at h6
    cases h6
  generalize xs.dropLast = ys at hlast
  generalize xs.getLast hne = y at hlast hy
  have hl0 : litH s ++ [10] ++ litF w true (trimLF s) ++ [10] ++ rest = litH s ++ 10 :: (linesR w xs ++ rest) := by rw [hlin]; simp
  have hln : (litH s).length + 1 + (litF w true (trimLF s)).length + 1 = (litH s).length + 1 + (linesR w xs).length := by rw [hlin]; simp; omega
  rw [hl0, hln]
  obtain ⟨l, hl⟩ : ∃ l, litH s ++ 10 :: (linesR w xs ++ rest) = l := ⟨_, rfl⟩
  have hll : l.length = (litH s).length + 1 + (linesR w xs).length + rest.length := by rw [← hl]; simp; omega
  have hb0 : byt l 0 = 124 := by
    rw [← hl]
    unfold litH
    split <;> rfl
  have hs : startB l 0 = true := decide_eq_true ⟨Int.le_refl _, by omega, .inl hb0⟩
  have hfo : folds l 0 = false := decide_eq_false (by rw [hb0]; omega)
  have hdl : l.drop ((litH s).length + 1) = linesR w xs ++ rest := by
    rw [← hl, show (litH s).length + 1 = (litH s ++ [10]).length by simp, show litH s ++ 10 :: (linesR w xs ++ rest) = (litH s ++ [10]) ++ (linesR w xs ++ rest) by simp, List.drop_left]
  have key : ∃ e keep, hdM l 1 = (0, keep, e) ∧ hdBad l 1 = false ∧ hdHas l 1 = false ∧ hdTrail l 1 = [] ∧ rowTo l 1 = (litH s).length ∧ trimLF s ++ List.replicate (if keep = 45 then 0 else if keep = 0 then 1 else 0 + 1) 10 = s := by
    by_cases hq : s.getLast? = some 10
    · have hH : litH s = [124] := if_pos hq
      rw [hH] at hl ⊢
      have b1 : byt l 1 = 10 := by rw [← hl]; rfl
      have hh := hd_none (l := l) (p := 1) (by omega)
      obtain ⟨g1, g2, g3, g4⟩ := bare_end (l := l) (p := 1) (by rw [hh]; exact b1) (by omega)
      rw [hh] at g1
      refine ⟨1, 0, hh, g2, g3, g4, g1, ?_⟩
      unfold trimLF
      rw [if_pos hq, if_neg (by decide), if_pos rfl]
      have hs0 : s ≠ [] := by intro h; rw [h] at h1; cases h1
      rw [List.getLast?_eq_some_getLast hs0] at hq
      have := List.dropLast_concat_getLast hs0
      rw [Option.some.inj hq] at this
      exact this
    · have hH : litH s = [124, 45] := if_neg hq
      rw [hH] at hl ⊢
      have b1 : byt l 1 = 45 := by rw [← hl]; rfl
      have b2 : byt l 2 = 10 := by rw [← hl]; rfl
      have hh := hd_sign (l := l) (p := 1) (.inr b1) (by rw [b2]; omega)
      rw [b1] at hh
      obtain ⟨g1, g2, g3, g4⟩ := bare_end (l := l) (p := 1) (by rw [hh]; exact b2) (by omega)
      rw [hh] at g1
      refine ⟨2, 45, hh, g2, g3, g4, g1, ?_⟩
      unfold trimLF
      rw [if_neg hq, if_pos rfl]
      exact List.append_nil _
  obtain ⟨e, keep, hh, hbad, hhas, htr, ht, htold⟩ := key
  have htl : (litH s).length < l.length := by omega
  have h10 : byt l (litH s).length = 10 := by rw [← ht]; exact rowTo_off (by rw [ht]; exact htl)
  have hrf : rowFrom l ((litH s).length + 1) = (litH s).length + 1 := rowFrom_feed h10
  have hst : ¬ ((litH s).length + 1 + (linesR w xs).length < l.length ∧ okB l w ((litH s).length + 1 + (linesR w xs).length) = true) := by
    rcases hr with hr | hr
    · subst hr
      exact stop_end (by rw [hll]; simp)
    · have hfrom := (go_lines hw xs ((litH s).length + 1) [] 0 0 rest hfeed hdl hrf).2
      have hdd := drop_app hdl
      subst hr
      exact stop_row (row := [35, 32, 122]) (rest := [121, 58, 32, 120, 10]) (k := 0) ⟨hdd, by decide, hfrom⟩ (by decide) (fun j hj => by omega) (by decide) (by omega)
  have hmain := bloc_lines (l := l) (n := -1) (w := w) (g := 0) (xs := xs) (tl := tl) (ys := ys) (x0 := x0) (y := y) (rest := rest) hs hh hbad ht htl hw (by omega) hfeed hx1 hx0n hx32 (by rw [hlast]; simp) hy hdl hst
  rw [hl, hmain, hfo, hhas, htr, told_is, ← hlast]
  have hbl : blockM xs false = trimLF s := by
    unfold blockM
    exact hjoin
  rw [hbl, htold]
  rfl
end U
end Go.Proofs.YtjfgcbikdibjeaaGreatDoor

