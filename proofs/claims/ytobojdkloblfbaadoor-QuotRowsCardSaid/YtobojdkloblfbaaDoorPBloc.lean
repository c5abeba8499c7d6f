/- Plain laws on block scalars. -/
import Derived.Test.YtobojdkloblfbaaDoorPNote
namespace Go.Proofs.YtobojdkloblfbaaDoor
namespace U
open Go

/-- A place's row. -/
def rowM (l : List UInt8) (p : Nat) : List UInt8 := (l.drop (rowFrom l p)).take (rowTo l p - rowFrom l p)
theorem rowM_len {l : List UInt8} {p : Nat} (hp : p ≤ l.length) : (rowM l p).length = rowTo l p - rowFrom l p := by
  have := rowTo_le hp
  unfold rowM
  rw [List.length_take, List.length_drop]
  omega
theorem rowM_byt {l : List UInt8} {p j : Nat} (h : j < rowTo l p - rowFrom l p) : byt (rowM l p) j = byt l (rowFrom l p + j) := by
  unfold rowM
  rw [byt_take _ _ _ h, byt_drop]
def blankB (l : List UInt8) (p : Nat) : Bool := (rowM l p).all fun b => decide (b.toNat = 32)
def markB (l : List UInt8) (p : Nat) : Bool := decide (kindM l p = 3 ∨ kindM l p = 4)
def nextM (l : List UInt8) (p : Nat) : Nat := min (rowTo l p + 1) l.length
theorem next_gt {l : List UInt8} {p : Nat} (h : p < l.length) : p < nextM l p := by
  have := rowTo_ge l p
  unfold nextM; omega
theorem next_le (l : List UInt8) (p : Nat) : nextM l p ≤ l.length := by unfold nextM; omega
/-- A row begins at a place, if there is a row. -/
def St (l : List UInt8) (p : Nat) : Prop := p < l.length → rowFrom l p = p
theorem st_end (l : List UInt8) {p : Nat} (h : l.length ≤ p) : St l p := fun hp => absurd hp (by omega)
theorem st_behind {l : List UInt8} {t : Nat} (h : t < l.length → byt l t = 10) : St l (min (t + 1) l.length) := by
  intro hp
  rw [show min (t + 1) l.length = t + 1 by omega]
  exact rowFrom_feed (h (by omega))
theorem st_next (l : List UInt8) (p : Nat) : St l (nextM l p) := st_behind fun h => rowTo_off h
theorem blank_in {l : List UInt8} {p : Nat} (hp : p ≤ l.length) : blankB l p = decide (inM l p = rowTo l p - rowFrom l p) := by
  have h1 := in_le hp
  have h2 := rowTo_le hp
  have hl := rowM_len hp
  rcases Nat.lt_or_ge (inM l p) (rowTo l p - rowFrom l p) with h | h
  · rw [decide_eq_false (by omega)]
    have hoff := run_off (P := blankN) (l := l) _ (rowFrom l p) rfl (by unfold inM at h; omega)
    have hb := rowM_byt (l := l) (p := p) (j := inM l p) h
    cases ha : blankB l p with
    | false => rfl
    | true =>
      exfalso
      have := List.all_eq_true.1 ha _ (List.getElem_mem (by omega : inM l p < (rowM l p).length))
      have e : byt (rowM l p) (inM l p) = 32 := by rw [← byt_get _ _ (by omega)]; exact of_decide_eq_true this
      rw [hb] at e
      unfold inM at e
      rw [e] at hoff
      cases hoff
  · rw [decide_eq_true (by omega)]
    refine List.all_eq_true.2 fun b hb => ?_
    obtain ⟨j, hj, rfl⟩ := List.getElem_of_mem hb
    have hb := rowM_byt (l := l) (p := p) (j := j) (by omega)
    have ha := run_all (P := blankN) (l := l) (rowFrom l p + j) (rowFrom l p) (by omega) (by unfold inM at h; omega)
    have e : byt (rowM l p) j = ((rowM l p)[j]).toNat := (byt_get _ _ hj).symm
    rw [← e, hb]
    exact ha
theorem mark_byte {l : List UInt8} {p : Nat} (h : markB l p = true) : byt l (rowFrom l p) = 45 ∨ byt l (rowFrom l p) = 46 := by
  have h := of_decide_eq_true h
  unfold kindM kindF at h
  split at h
  · rename_i hm
    unfold markM at hm
    have := of_decide_eq_true (Bool.and_eq_true_iff.1 hm).1
    exact .inl this.2.1
  · split at h
    · rename_i hm
      unfold markM at hm
      have := of_decide_eq_true (Bool.and_eq_true_iff.1 hm).1
      exact .inr this.2.1
    · exfalso
      split at h
      · omega
      · split at h <;> omega
theorem blank_mark {l : List UInt8} {p : Nat} (hp : p < l.length) (h : blankB l p = true) : markB l p = false := by
  cases hm : markB l p with
  | false => rfl
  | true =>
    exfalso
    have hb := mark_byte hm
    rw [blank_in (Nat.le_of_lt hp), decide_eq_true_iff] at h
    have h1 : rowFrom l p < rowTo l p := by
      have h2 := rowTo_from (Nat.le_of_lt hp)
      rcases Nat.lt_or_ge (rowFrom l p) (rowTo l p) with h3 | h3
      · exact h3
      · have h4 := rowFrom_le l p
        have h5 := rowTo_ge l p
        have h6 : rowTo l p < l.length := by omega
        have := rowTo_off h6
        rw [show rowTo l p = rowFrom l p by omega] at this
        omega
    have := run_all (P := blankN) (l := l) (rowFrom l p) (rowFrom l p) (Nat.le_refl _) (by unfold inM at h; omega)
    unfold blankN at this
    have := of_decide_eq_true this
    omega

/-- The first row from a place on that has other than blanks; the end, if there is none. -/
def frontF (l : List UInt8) : Nat → Nat → Nat
  | 0, p => p
  | f + 1, p => if p < l.length ∧ blankB l p = true then frontF l f (nextM l p) else p
def frontM (l : List UInt8) (p : Nat) : Nat := frontF l (l.length - p) p
theorem frontF_fuel (l : List UInt8) : ∀ (f g p : Nat), l.length - p ≤ f → l.length - p ≤ g → frontF l f p = frontF l g p := by
  intro f
  induction f with
  | zero =>
    intro g p h _
    cases g with
    | zero => rfl
    | succ g => rw [frontF, frontF, if_neg (by omega)]
  | succ f ih =>
    intro g p h1 h2
    cases g with
    | zero => rw [frontF, frontF, if_neg (by omega)]
    | succ g =>
      rw [frontF, frontF]
      split
      · rename_i h
        have := next_gt h.1
        exact ih _ _ (by omega) (by omega)
      · rfl
theorem front_go {l : List UInt8} {p : Nat} (h : p < l.length) (hb : blankB l p = true) : frontM l p = frontM l (nextM l p) := by
  have := next_gt h
  rw [frontM, show l.length - p = (l.length - p - 1) + 1 by omega, frontF, if_pos ⟨h, hb⟩]
  exact frontF_fuel l _ _ _ (by omega) (Nat.le_refl _)
theorem front_stop {l : List UInt8} {p : Nat} (h : ¬ (p < l.length ∧ blankB l p = true)) : frontM l p = p := by
  rw [frontM]
  cases l.length - p with
  | zero => rfl
  | succ f => rw [frontF, if_neg h]
theorem front_is (l : List UInt8) : ∀ (d p : Nat), l.length - p ≤ d → p ≤ l.length → St l p →
    p ≤ frontM l p ∧ frontM l p ≤ l.length ∧ St l (frontM l p) ∧ (frontM l p < l.length → blankB l (frontM l p) = false) := by
  intro d
  induction d with
  | zero =>
    intro p h hp hs
    rw [front_stop (by omega)]
    exact ⟨Nat.le_refl _, hp, hs, fun h' => by omega⟩
  | succ d ih =>
    intro p h hp hs
    by_cases hc : p < l.length ∧ blankB l p = true
    · rw [front_go hc.1 hc.2]
      have h1 := next_gt hc.1
      obtain ⟨a, b, c, e⟩ := ih (nextM l p) (by omega) (next_le l p) (st_next l p)
      exact ⟨by omega, b, c, e⟩
    · rw [front_stop hc]
      exact ⟨Nat.le_refl _, hp, hs, fun h' => by
        cases hb : blankB l p with
        | false => rfl
        | true => exact absurd ⟨h', hb⟩ hc⟩

/-- Where the first row of more than so many bytes has what may not stand there. -/
def tooF (l : List UInt8) (w e : Nat) : Nat → Nat → Option Nat
  | 0, _ => none
  | f + 1, k => if k < e then (if w < rowTo l k - rowFrom l k then some (k + w) else tooF l w e f (nextM l k)) else none
def tooM (l : List UInt8) (w e k : Nat) : Option Nat := tooF l w e (l.length - k) k
theorem tooF_fuel (l : List UInt8) (w e : Nat) (he : e ≤ l.length) : ∀ (f g k : Nat), l.length - k ≤ f → l.length - k ≤ g → tooF l w e f k = tooF l w e g k := by
  intro f
  induction f with
  | zero =>
    intro g p h _
    cases g with
    | zero => rfl
    | succ g => rw [tooF, tooF, if_neg (by omega)]
  | succ f ih =>
    intro g p h1 h2
    cases g with
    | zero => rw [tooF, tooF, if_neg (by omega)]
    | succ g =>
      rw [tooF, tooF]
      by_cases hp : p < e
      · have := next_gt (l := l) (p := p) (by omega)
        rw [ih g (nextM l p) (by omega) (by omega)]
      · rw [if_neg hp, if_neg hp]
theorem too_end {l : List UInt8} {w e k : Nat} (h : e ≤ k) : tooM l w e k = none := by
  rw [tooM]
  cases l.length - k with
  | zero => rfl
  | succ f => rw [tooF, if_neg (by omega)]
theorem too_go {l : List UInt8} {w e k : Nat} (he : e ≤ l.length) (h : k < e) : tooM l w e k = if w < rowTo l k - rowFrom l k then some (k + w) else tooM l w e (nextM l k) := by
  have := next_gt (l := l) (p := k) (by omega)
  rw [tooM, show l.length - k = (l.length - k - 1) + 1 by omega, tooF, if_pos h, tooM, tooF_fuel l w e he (l.length - k - 1) (l.length - nextM l k) _ (by omega) (by omega)]
theorem too_le {l : List UInt8} {w e : Nat} (he : e ≤ l.length) : ∀ (d k q : Nat), l.length - k ≤ d → St l k → tooM l w e k = some q → q ≤ l.length := by
  intro d
  induction d with
  | zero => intro k q h _ hq; rw [too_end (by omega)] at hq; cases hq
  | succ d ih =>
    intro k q h hs hq
    rcases Nat.lt_or_ge k e with hk | hk
    · rw [too_go he hk] at hq
      split at hq
      · cases hq
        have := rowTo_le (l := l) (p := k) (by omega)
        have := hs (by omega)
        omega
      · have := next_gt (l := l) (p := k) (by omega)
        exact ih _ _ (by omega) (st_next l k) hq
    · rw [too_end hk] at hq; cases hq

/-- A row of the scalar's. -/
def okB (l : List UInt8) (w p : Nat) : Bool := !markB l p && (blankB l p || decide (w ≤ inM l p))
def textB (l : List UInt8) (w p : Nat) : List UInt8 := (rowM l p).drop w
abbrev Went := List (List UInt8) × Nat × Nat × Nat
/-- The scalar's rows: their texts, up to which they are not empty, how many line feeds stand behind, where they end. -/
def goF (l : List UInt8) (w : Nat) : Nat → Nat → List (List UInt8) → Nat → Nat → Went
  | 0, p, acc, full, feeds => (acc, full, feeds, p)
  | f + 1, p, acc, full, feeds => if p < l.length ∧ okB l w p = true then
      goF l w f (nextM l p) (acc ++ [textB l w p]) (if textB l w p = [] then full else acc.length + 1)
        ((if textB l w p = [] then feeds else 0) + if rowTo l p < l.length then 1 else 0)
    else (acc, full, feeds, p)
def goM (l : List UInt8) (w p : Nat) (acc : List (List UInt8)) (full feeds : Nat) : Went := goF l w (l.length - p) p acc full feeds
theorem goF_fuel (l : List UInt8) (w : Nat) : ∀ (f g p : Nat) (acc : List (List UInt8)) (full feeds : Nat), l.length - p ≤ f → l.length - p ≤ g → goF l w f p acc full feeds = goF l w g p acc full feeds := by
  intro f
  induction f with
  | zero =>
    intro g p acc full feeds h _
    cases g with
    | zero => rfl
    | succ g => rw [goF, goF, if_neg (by omega)]
  | succ f ih =>
    intro g p acc full feeds h1 h2
    cases g with
    | zero => rw [goF, goF, if_neg (by omega)]
    | succ g =>
      rw [goF, goF]
      split
      · rename_i h
        have := next_gt h.1
        exact ih _ _ _ _ _ (by omega) (by omega)
      · rfl
theorem go_go {l : List UInt8} {w p : Nat} {acc : List (List UInt8)} {full feeds : Nat} (h : p < l.length) (hb : okB l w p = true) :
    goM l w p acc full feeds = goM l w (nextM l p) (acc ++ [textB l w p]) (if textB l w p = [] then full else acc.length + 1)
        ((if textB l w p = [] then feeds else 0) + if rowTo l p < l.length then 1 else 0) := by
  have := next_gt h
  rw [goM, show l.length - p = (l.length - p - 1) + 1 by omega, goF, if_pos ⟨h, hb⟩]
  exact goF_fuel l w _ _ _ _ _ _ (by omega) (Nat.le_refl _)
theorem go_stop {l : List UInt8} {w p : Nat} {acc : List (List UInt8)} {full feeds : Nat} (h : ¬ (p < l.length ∧ okB l w p = true)) : goM l w p acc full feeds = (acc, full, feeds, p) := by
  rw [goM]
  cases l.length - p with
  | zero => rfl
  | succ f => rw [goF, if_neg h]
def endM (l : List UInt8) (w p : Nat) : Nat := (goM l w p [] 0 0).2.2.2
theorem go_end (l : List UInt8) (w : Nat) : ∀ (d p : Nat) (acc : List (List UInt8)) (full feeds : Nat), l.length - p ≤ d → (goM l w p acc full feeds).2.2.2 = endM l w p := by
  intro d
  induction d with
  | zero => intro p acc full feeds h; unfold endM; rw [go_stop (by omega), go_stop (by omega)]
  | succ d ih =>
    intro p acc full feeds h
    by_cases hc : p < l.length ∧ okB l w p = true
    · have := next_gt hc.1
      unfold endM
      rw [go_go hc.1 hc.2, go_go hc.1 hc.2, ih _ _ _ _ (by omega), ih _ _ _ _ (by omega)]
    · unfold endM; rw [go_stop hc, go_stop hc]
theorem end_go {l : List UInt8} {w p : Nat} (h : p < l.length) (hb : okB l w p = true) : endM l w p = endM l w (nextM l p) := by
  conv => lhs; unfold endM
  rw [go_go h hb, go_end l w _ _ _ _ _ (Nat.le_refl _)]
theorem end_stop {l : List UInt8} {w p : Nat} (h : ¬ (p < l.length ∧ okB l w p = true)) : endM l w p = p := by
  unfold endM; rw [go_stop h]
theorem end_is (l : List UInt8) (w : Nat) : ∀ (d p : Nat), l.length - p ≤ d → p ≤ l.length → p ≤ endM l w p ∧ endM l w p ≤ l.length := by
  intro d
  induction d with
  | zero => intro p h hp; rw [end_stop (by omega)]; exact ⟨Nat.le_refl _, hp⟩
  | succ d ih =>
    intro p h hp
    by_cases hc : p < l.length ∧ okB l w p = true
    · have := next_gt hc.1
      rw [end_go hc.1 hc.2]
      have := ih (nextM l p) (by omega) (next_le l p)
      omega
    · rw [end_stop hc]; exact ⟨Nat.le_refl _, hp⟩
/-- How long what there is gets. -/
def sumL (xs : List (List UInt8)) : Nat := (xs.map fun x => x.length + 1).foldr (· + ·) 0
theorem sumL_cons (x : List UInt8) (t : List (List UInt8)) : sumL (x :: t) = x.length + 1 + sumL t := rfl
theorem sumL_snoc (xs : List (List UInt8)) (x : List UInt8) : sumL (xs ++ [x]) = sumL xs + (x.length + 1) := by
  induction xs with
  | nil => simp [sumL]
  | cons y ys ih => simp only [sumL, List.cons_append, List.map_cons, List.foldr_cons] at ih ⊢; omega
theorem textB_len {l : List UInt8} {w p : Nat} (hp : p ≤ l.length) : (textB l w p).length = rowTo l p - rowFrom l p - w := by
  unfold textB; rw [List.length_drop, rowM_len hp]
theorem go_size (l : List UInt8) (w : Nat) : ∀ (d p : Nat) (acc : List (List UInt8)) (full feeds : Nat), l.length - p ≤ d → p ≤ l.length → St l p → full ≤ acc.length → feeds ≤ p → sumL acc ≤ p + 1 →
    (p < l.length → sumL acc ≤ p) →
    sumL (goM l w p acc full feeds).1 ≤ l.length + 1 ∧ (goM l w p acc full feeds).2.1 ≤ (goM l w p acc full feeds).1.length ∧ (goM l w p acc full feeds).2.2.1 ≤ l.length := by
  intro d
  induction d with
  | zero => intro p acc full feeds h hp hs h1 h2 h3 h4; rw [go_stop (by omega)]; exact ⟨Nat.le_trans h3 (by omega), h1, Nat.le_trans h2 hp⟩
  | succ d ih =>
    intro p acc full feeds h hp hs h1 h2 h3 h4
    by_cases hc : p < l.length ∧ okB l w p = true
    · have hg := next_gt hc.1
      have ht := rowTo_le (Nat.le_of_lt hc.1)
      have hge := rowTo_ge l p
      have hl := textB_len (w := w) (Nat.le_of_lt hc.1)
      have hf := hs hc.1
      have h4 := h4 hc.1
      have hn : nextM l p = min (rowTo l p + 1) l.length := rfl
      rw [go_go hc.1 hc.2]
      refine ih _ _ _ _ (by omega) (next_le l p) (st_next l p) ?_ ?_ ?_ ?_
      · rw [List.length_append, List.length_singleton]
        split <;> omega
      · split <;> split <;> omega
      · rw [sumL_snoc]; omega
      · intro _; rw [sumL_snoc]; omega
    · rw [go_stop hc]; exact ⟨Nat.le_trans h3 (by omega), h1, Nat.le_trans h2 hp⟩
