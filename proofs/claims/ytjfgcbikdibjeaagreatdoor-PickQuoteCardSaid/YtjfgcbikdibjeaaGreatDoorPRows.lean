/- Plain laws on rows: where a place's row begins and ends, what kind it is. No program in sight. -/
import Derived.Test.YtjfgcbikdibjeaaGreatDoorPSign
import Derived.Test.YtjfgcbikdibjeaaGreatDoorPCut
import Derived.Lib.Bytealg
import Derived.Lib.Strings
import Derived.Lib.LastIndexByte
namespace Go.Proofs.YtjfgcbikdibjeaaGreatDoor
namespace U
open Go

/-- How many bytes from a place on are of a kind. -/
def run (P : Nat → Bool) (l : List UInt8) (p : Nat) : Nat := ((l.drop p).takeWhile fun b => P b.toNat).length
theorem run_step {P : Nat → Bool} {l : List UInt8} {p : Nat} (h : p < l.length) (hP : P (byt l p) = true) : run P l p = run P l (p + 1) + 1 := by
  unfold run
  rw [List.drop_eq_getElem_cons h, List.takeWhile_cons, byt_get l p h, if_pos hP]
  rfl
theorem run_stop {P : Nat → Bool} {l : List UInt8} {p : Nat} (h : P (byt l p) = false) : run P l p = 0 := by
  unfold run
  by_cases hp : p < l.length
  · rw [List.drop_eq_getElem_cons hp, List.takeWhile_cons, byt_get l p hp, if_neg (by rw [h]; decide)]
    rfl
  · rw [List.drop_eq_nil_of_le (by omega)]; rfl
theorem run_end {P : Nat → Bool} {l : List UInt8} {p : Nat} (h : l.length ≤ p) : run P l p = 0 := by
  unfold run
  rw [List.drop_eq_nil_of_le h]; rfl
theorem run_le (P : Nat → Bool) (l : List UInt8) (p : Nat) : run P l p ≤ l.length - p := by
  have h : run P l p ≤ (l.drop p).length := (List.takeWhile_prefix _).length_le
  rw [List.length_drop] at h
  exact h
/-- What a run is, said of a place at which it ends. -/
theorem run_is {P : Nat → Bool} {l : List UInt8} : ∀ (k p : Nat), p + k ≤ l.length → (∀ j, p ≤ j → j < p + k → P (byt l j) = true) → (p + k = l.length ∨ P (byt l (p + k)) = false) → run P l p = k := by
  intro k
  induction k with
  | zero =>
    intro p _ _ h
    rcases h with h | h
    · exact run_end (by omega)
    · exact run_stop h
  | succ k ih =>
    intro p hl ha h
    rw [run_step (by omega) (ha p (by omega) (by omega)), ih (p + 1) (by omega) (fun j h1 h2 => ha j (by omega) (by omega)) (by rw [show p + 1 + k = p + (k + 1) by omega]; exact h)]
theorem run_all {P : Nat → Bool} {l : List UInt8} : ∀ (j p : Nat), p ≤ j → j < p + run P l p → P (byt l j) = true := by
  intro j
  suffices h : ∀ (d p : Nat), p + d = j → j < p + run P l p → P (byt l j) = true by
    intro p hp hj
    exact h (j - p) p (by omega) hj
  intro d
  induction d with
  | zero =>
    intro p hp hj
    cases hq : P (byt l p) with
    | true => rw [← hp]; simpa using hq
    | false => rw [run_stop hq] at hj; omega
  | succ d ih =>
    intro p hp hj
    cases hq : P (byt l p) with
    | true =>
      have hl : p < l.length := by have := run_le P l p; omega
      rw [run_step hl hq] at hj
      exact ih (p + 1) (by omega) (by omega)
    | false => rw [run_stop hq] at hj; omega
theorem run_off {P : Nat → Bool} {l : List UInt8} : ∀ (d p : Nat), d = l.length - p → p + run P l p < l.length → P (byt l (p + run P l p)) = false := by
  intro d
  induction d with
  | zero => intro p hd h; omega
  | succ d ih =>
    intro p hd h
    cases hq : P (byt l p) with
    | true =>
      rw [run_step (by omega) hq] at h ⊢
      rw [show p + (run P l (p + 1) + 1) = p + 1 + run P l (p + 1) by omega] at h ⊢
      exact ih (p + 1) (by omega) h
    | false => rw [run_stop hq]; exact hq
theorem run_mid {P : Nat → Bool} {l : List UInt8} : ∀ (k p : Nat), k ≤ run P l p → run P l p = k + run P l (p + k) := by
  intro k
  induction k with
  | zero => intro p _; simp
  | succ k ih =>
    intro p h
    cases hq : P (byt l p) with
    | true =>
      have hl : p < l.length := by have := run_le P l p; omega
      rw [run_step hl hq] at h ⊢
      rw [ih (p + 1) (by omega), show p + 1 + k = p + (k + 1) by omega]
      omega
    | false => rw [run_stop hq] at h; omega

def notFeed (b : Nat) : Bool := decide (b ≠ 10)
def blankN (b : Nat) : Bool := decide (b = 32)
theorem wh_notFeed {b : Nat} (h : whN b = true) : notFeed b = true := by
  unfold whN at h; unfold notFeed; simp at h ⊢; omega

/-- Where a place's row begins. -/
def rowFrom (l : List UInt8) : Nat → Nat
  | 0 => 0
  | p + 1 => if byt l p = 10 then p + 1 else rowFrom l p
/-- Where it ends. -/
def rowTo (l : List UInt8) (p : Nat) : Nat := p + run notFeed l p
theorem rowFrom_le (l : List UInt8) : ∀ p, rowFrom l p ≤ p
  | 0 => Nat.le_refl _
  | p + 1 => by
    rw [rowFrom]
    split
    · exact Nat.le_refl _
    · exact Nat.le_succ_of_le (rowFrom_le l p)
theorem rowFrom_begin (l : List UInt8) : ∀ p, rowFrom l p = 0 ∨ byt l (rowFrom l p - 1) = 10
  | 0 => .inl rfl
  | p + 1 => by
    rw [rowFrom]
    split
    · rename_i h; exact .inr h
    · exact rowFrom_begin l p
theorem rowFrom_in (l : List UInt8) : ∀ p j, rowFrom l p ≤ j → j < p → byt l j ≠ 10
  | 0, j, _, h => by omega
  | p + 1, j, h1, h2 => by
    rw [rowFrom] at h1
    split at h1
    · omega
    · rename_i h
      rcases Nat.lt_or_ge j p with hj | hj
      · exact rowFrom_in l p j h1 hj
      · rw [show j = p by omega]; exact h
theorem rowFrom_is {l : List UInt8} : ∀ {p f : Nat}, f ≤ p → (f = 0 ∨ byt l (f - 1) = 10) → (∀ j, f ≤ j → j < p → byt l j ≠ 10) → rowFrom l p = f
  | 0, f, h, _, _ => by rw [rowFrom]; omega
  | p + 1, f, h, hb, hn => by
    rw [rowFrom]
    split
    · rename_i h10
      rcases Nat.lt_or_ge p f with hf | hf
      · omega
      · exact absurd h10 (hn p hf (by omega))
    · rename_i h10
      rcases Nat.lt_or_ge p f with hf | hf
      · have : f = p + 1 := by omega
        subst this
        rcases hb with hb | hb
        · omega
        · exact absurd hb h10
      · exact rowFrom_is hf hb (fun j h1 h2 => hn j h1 (by omega))
/-- Two places of one row. -/
theorem rowFrom_same {l : List UInt8} {p q : Nat} (h : p ≤ q) (hn : ∀ j, p ≤ j → j < q → byt l j ≠ 10) : rowFrom l q = rowFrom l p :=
  rowFrom_is (Nat.le_trans (rowFrom_le l p) h) (rowFrom_begin l p) fun j h1 h2 => by
    rcases Nat.lt_or_ge j p with hj | hj
    · exact rowFrom_in l p j h1 hj
    · exact hn j hj h2
theorem rowFrom_self (l : List UInt8) (p : Nat) : rowFrom l (rowFrom l p) = rowFrom l p :=
  rowFrom_is (Nat.le_refl _) (rowFrom_begin l p) (fun j h1 h2 => by omega)
theorem rowTo_le {l : List UInt8} {p : Nat} (h : p ≤ l.length) : rowTo l p ≤ l.length := by
  have := run_le notFeed l p; unfold rowTo; omega
theorem rowTo_ge (l : List UInt8) (p : Nat) : p ≤ rowTo l p := by unfold rowTo; omega
theorem notFeed_iff (b : Nat) : notFeed b = true ↔ b ≠ 10 := by simp [notFeed]
theorem rowTo_in {l : List UInt8} {p j : Nat} (h1 : p ≤ j) (h2 : j < rowTo l p) : byt l j ≠ 10 := (notFeed_iff _).1 (run_all j p h1 h2)
theorem rowTo_off {l : List UInt8} {p : Nat} (h : rowTo l p < l.length) : byt l (rowTo l p) = 10 := by
  have := run_off (P := notFeed) (l := l) _ p rfl h
  simpa [notFeed, rowTo] using this
theorem rowTo_is {l : List UInt8} {p t : Nat} (h1 : p ≤ t) (h2 : t ≤ l.length) (h3 : t = l.length ∨ byt l t = 10) (h4 : ∀ j, p ≤ j → j < t → byt l j ≠ 10) : rowTo l p = t := by
  unfold rowTo
  rw [run_is (t - p) p (by omega) (fun j a b => (notFeed_iff _).2 (h4 j a (by omega))) (by
    rw [show p + (t - p) = t by omega]
    rcases h3 with h3 | h3
    · exact .inl h3
    · exact .inr (by simp [notFeed, h3]))]
  omega
theorem rowTo_same {l : List UInt8} {p q : Nat} (h : p ≤ q) (hq : q ≤ l.length) (hn : ∀ j, p ≤ j → j < q → byt l j ≠ 10) : rowTo l q = rowTo l p := by
  symm
  refine rowTo_is (Nat.le_trans h (rowTo_ge l q)) (rowTo_le hq) ?_ fun j h1 h2 => ?_
  · rcases Nat.lt_or_ge (rowTo l q) l.length with h' | h'
    · exact .inr (rowTo_off h')
    · exact .inl (by have := rowTo_le hq; omega)
  · rcases Nat.lt_or_ge j q with hj | hj
    · exact hn j h1 hj
    · exact rowTo_in hj h2
/-- The row's end, seen from where it begins. -/
theorem rowTo_from {l : List UInt8} {p : Nat} (hp : p ≤ l.length) : rowTo l (rowFrom l p) = rowTo l p :=
  (rowTo_same (rowFrom_le l p) hp (fun j h1 h2 => rowFrom_in l p j h1 h2)).symm
theorem from_le_to (l : List UInt8) (p : Nat) : rowFrom l p ≤ rowTo l p := Nat.le_trans (rowFrom_le l p) (rowTo_ge l p)

/-- How many blanks a place's row begins with. -/
def inM (l : List UInt8) (p : Nat) : Nat := run blankN l (rowFrom l p)
theorem run_mono {P Q : Nat → Bool} (h : ∀ b, P b = true → Q b = true) {l : List UInt8} {p : Nat} : run P l p ≤ run Q l p := by
  rcases Nat.le_total (run P l p) (run Q l p) with h1 | h1
  · exact h1
  · rcases Nat.lt_or_ge (run Q l p) (run P l p) with h2 | h2
    · exfalso
      have hl := run_le P l p
      have a := run_off (P := Q) (l := l) _ p rfl (by omega)
      have b := run_all (P := P) (l := l) (p + run Q l p) p (by omega) (by omega)
      rw [h _ b] at a
      cases a
    · omega
theorem in_le {l : List UInt8} {p : Nat} (hp : p ≤ l.length) : rowFrom l p + inM l p ≤ rowTo l p := by
  rw [← rowTo_from hp]
  have : run blankN l (rowFrom l p) ≤ run notFeed l (rowFrom l p) := run_mono (fun b h => by unfold blankN at h; unfold notFeed; simp at h ⊢; omega)
  unfold rowTo inM
  omega
/-- The first place from one on, up to another, that is not White. -/
def firstM (l : List UInt8) (from' to : Nat) : Nat := min to (from' + run whN l from')
theorem first_row {l : List UInt8} (f : Nat) : f + run whN l f ≤ rowTo l f := by
  have : run whN l f ≤ run notFeed l f := run_mono (fun b h => wh_notFeed h)
  unfold rowTo
  omega
/-- Nothing but white, or a row's end, stands at a place. -/
def endsM (l : List UInt8) (p : Nat) : Bool := decide (l.length ≤ p) || (whN (byt l p) || decide (byt l p = 10))
/-- A row begins with a mark of three bytes. -/
def markM (l : List UInt8) (c f : Nat) : Bool := decide (f + 3 ≤ l.length ∧ byt l f = c ∧ byt l (f + 1) = c ∧ byt l (f + 2) = c) && endsM l (f + 3)
/-- The kind of a row that begins at a place. -/
def kindF (l : List UInt8) (f : Nat) : Nat :=
  if markM l 45 f then 3 else if markM l 46 f then 4
  else if l.length ≤ f + run whN l f ∨ byt l (f + run whN l f) = 10 then 1 else if byt l (f + run whN l f) = 35 then 2 else 5
def kindM (l : List UInt8) (p : Nat) : Nat := kindF l (rowFrom l p)
theorem kindF_range (l : List UInt8) (f : Nat) : 1 ≤ kindF l f ∧ kindF l f ≤ 5 := by
  unfold kindF
  repeat' split
  all_goals omega
/-- How many blank rows stand right above a row that begins at a place. -/
def aboveF (l : List UInt8) : Nat → Nat → Nat
  | 0, _ => 0
  | k + 1, f => if f = 0 then 0 else if kindM l (f - 1) = 1 then aboveF l k (rowFrom l (f - 1)) + 1 else 0
theorem aboveF_fuel (l : List UInt8) : ∀ (k k' f : Nat), f ≤ k → f ≤ k' → aboveF l k f = aboveF l k' f := by
  intro k
  induction k with
  | zero =>
    intro k' f h _
    obtain rfl : f = 0 := by omega
    cases k' <;> simp [aboveF]
  | succ k ih =>
    intro k' f h h'
    cases k' with
    | zero =>
      obtain rfl : f = 0 := by omega
      simp [aboveF]
    | succ k' =>
      rw [aboveF, aboveF]
      split
      · rfl
      · have := rowFrom_le l (f - 1)
        rw [ih k' _ (by omega) (by omega)]
def aboveR (l : List UInt8) (f : Nat) : Nat := aboveF l f f
theorem aboveR_zero (l : List UInt8) : aboveR l 0 = 0 := rfl
theorem aboveR_step {l : List UInt8} {f : Nat} (h : 0 < f) : aboveR l f = if kindM l (f - 1) = 1 then aboveR l (rowFrom l (f - 1)) + 1 else 0 := by
  obtain ⟨k, rfl⟩ : ∃ k, f = k + 1 := ⟨f - 1, by omega⟩
  have := rowFrom_le l k
  show aboveF l (k + 1) (k + 1) = _
  rw [aboveF, if_neg (by omega)]
  simp only [Nat.add_sub_cancel]
  unfold aboveR
  rw [aboveF_fuel l k (rowFrom l k) (rowFrom l k) (by omega) (Nat.le_refl _)]
theorem aboveF_le (l : List UInt8) : ∀ (k f : Nat), aboveF l k f ≤ k := by
  intro k
  induction k with
  | zero => intro f; simp [aboveF]
  | succ k ih =>
    intro f
    rw [aboveF]
    repeat' split
    · omega
    · have := ih (rowFrom l (f - 1)); omega
    · omega
/-- How many blank rows stand right above a place's row, if nothing but White stands ahead of it. -/
def aboveM (l : List UInt8) (p : Nat) : Nat := if firstM l (rowFrom l p) p < p then 0 else aboveR l (rowFrom l p)
theorem aboveM_le (l : List UInt8) (p : Nat) : aboveM l p ≤ p := by
  unfold aboveM
  split
  · omega
  · exact Nat.le_trans (aboveF_le l _ _) (rowFrom_le l p)
/-- A place held to a text. -/
def heldM (l : List UInt8) (a : Int) : Nat := min a.toNat l.length
theorem heldM_le (l : List UInt8) (a : Int) : heldM l a ≤ l.length := by unfold heldM; omega
theorem heldM_nat {l : List UInt8} {p : Nat} (h : p ≤ l.length) : heldM l (p : Int) = p := by unfold heldM; omega
theorem last_from {l : List UInt8} {p : Nat} (hp : p ≤ l.length) : Lib.lastIndexByte ⟨(l.take p).toArray⟩ 10 = (rowFrom l p : Int) - 1 := by
  have htl : (l.take p).length = p := by rw [List.length_take]; omega
  have hget : ∀ j, j < p → (((⟨(l.take p).toArray⟩ : ByteArray).data[j]!).toNat : Int) = (byt l j : Int) := by
    intro j hj
    have h1 : (⟨(l.take p).toArray⟩ : ByteArray).data[j]! = (l.take p)[j]'(by omega) := getElem!_pos ((l.take p).toArray) j (by simp; omega)
    rw [h1, byt_get, byt_take l p j hj]
  rcases Lib.lastIndexByte_spec ⟨(l.take p).toArray⟩ 10 with ⟨e, hn⟩ | ⟨i, hi, e, hc, hn⟩
  · rw [e, rowFrom_is (f := 0) (Nat.zero_le _) (.inl rfl) (fun j _ h2 h10 => hn j (by rw [size_mk]; omega) (by rw [hget j h2, h10]; rfl))]
    rfl
  · rw [size_mk, htl] at hi hn
    rw [hget i hi] at hc
    rw [e, rowFrom_is (f := i + 1) (by omega) (.inr (by rw [Nat.add_sub_cancel]; omega)) (fun j h1 h2 h10 => hn j (by omega) h2 (by rw [hget j h2, h10]; rfl))]
    omega
theorem index_run (c : UInt8) : ∀ m : List UInt8, Lib.indexByte m c = if (m.takeWhile fun b => decide (b.toNat ≠ c.toNat)).length < m.length then ((m.takeWhile fun b => decide (b.toNat ≠ c.toNat)).length : Int) else -1 := by
  intro m
  induction m with
  | nil => rfl
  | cons b m ih =>
    unfold Lib.indexByte
    by_cases h : b = c
    · subst h; simp
    · have hb : (b == c) = false := by simpa using h
      have hn : b.toNat ≠ c.toNat := fun e => h (UInt8.toNat.inj e)
      have hl : (m.takeWhile fun b => decide (b.toNat ≠ c.toNat)).length ≤ m.length := (List.takeWhile_prefix _).length_le
      have ht : ((b :: m).takeWhile fun b => decide (b.toNat ≠ c.toNat)).length = (m.takeWhile fun b => decide (b.toNat ≠ c.toNat)).length + 1 := by
        rw [List.takeWhile_cons, if_pos (by simpa using hn)]; rfl
      rw [ht, hb, List.length_cons]
      generalize (m.takeWhile fun b => decide (b.toNat ≠ c.toNat)).length = k at *
      by_cases hk : k < m.length
      · rw [if_pos hk] at ih
        rw [ih, if_pos (show k + 1 < m.length + 1 by omega), if_neg (by decide), if_neg (by simp)]
        omega
      · rw [if_neg hk] at ih
        rw [ih, if_neg (show ¬ k + 1 < m.length + 1 by omega)]
        rfl
theorem index_to {l : List UInt8} {p : Nat} (hp : p ≤ l.length) : Lib.indexByte (l.drop p) 10 = if rowTo l p < l.length then (run notFeed l p : Int) else -1 := by
  rw [index_run, List.length_drop]
  show (if run notFeed l p < l.length - p then (run notFeed l p : Int) else -1) = _
  have : run notFeed l p < l.length - p ↔ rowTo l p < l.length := by unfold rowTo; omega
  simp only [this]
end U
end Go.Proofs.YtjfgcbikdibjeaaGreatDoor
