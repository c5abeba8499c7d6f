/- Plain laws on block scalars: what is read from rows that are in by as much each. -/
import Derived.Test.YtobojdkloblfbaaDoorPBloc3
namespace Go.Proofs.YtobojdkloblfbaaDoor
namespace U
open Go

theorem hd_none {l : List UInt8} {p : Nat} (h : ¬ (49 ≤ byt l p ∧ byt l p ≤ 57) ∧ byt l p ≠ 43 ∧ byt l p ≠ 45) : hdM l p = (0, 0, p) := by
  have e : hdStep l (0, 0, p) = (0, 0, p) := by
    unfold hdStep
    rw [if_neg (by simp only []; omega), if_neg (by simp only []; omega)]
  show hdStep l (hdStep l (0, 0, p)) = _
  rw [e, e]
theorem hd_sign {l : List UInt8} {p : Nat} (h : byt l p = 43 ∨ byt l p = 45) (h2 : ¬ (49 ≤ byt l (p + 1) ∧ byt l (p + 1) ≤ 57)) : hdM l p = (0, byt l p, p + 1) := by
  have e : hdStep l (0, 0, p) = (0, byt l p, p + 1) := by
    unfold hdStep
    rw [if_neg (by simp only []; omega), if_pos ⟨rfl, h⟩]
  show hdStep l (hdStep l (0, 0, p)) = _
  rw [e]
  unfold hdStep
  rw [if_neg (fun x => h2 ⟨x.2.1, x.2.2⟩), if_neg (fun x => by have := x.1; simp only [] at this; omega)]
/-- Nothing stands behind the header. -/
theorem bare_end {l : List UInt8} {p : Nat} (h : byt l (hdM l p).2.2 = 10) (hp : p ≤ l.length) : rowTo l p = (hdM l p).2.2 ∧ hdBad l p = false ∧ hdHas l p = false ∧ hdTrail l p = [] := by
  obtain ⟨h1, h2, -, -, h5⟩ := hdM_is hp
  have hr : run whN l (hdM l p).2.2 = 0 := run_stop (by rw [h]; rfl)
  have ht : rowTo l (hdM l p).2.2 = (hdM l p).2.2 := by
    unfold rowTo
    rw [run_stop (by rw [h]; rfl), Nat.add_zero]
  have hh : hdHas l p = false := by
    unfold hdHas hdEnd
    rw [hr, ← h5, ht]
    exact decide_eq_false (by omega)
  refine ⟨by rw [← h5, ht], ?_, hh, ?_⟩
  · unfold hdBad
    unfold hdHas at hh
    exact decide_eq_false (fun x => (of_decide_eq_false hh) x.1)
  · unfold hdTrail
    rw [hh]; rfl
theorem stop_end {l : List UInt8} {w p : Nat} (h : l.length ≤ p) : ¬ (p < l.length ∧ okB l w p = true) := by omega
/-- A row that is not far enough in. -/
theorem stop_row {l : List UInt8} {w p k : Nat} {row rest : List UInt8} (h : RowAt l p row rest) (hk : k < row.length) (hb : ∀ j, j < k → byt row j = 32) (hn : byt row k ≠ 32) (hw : k < w) :
    ¬ (p < l.length ∧ okB l w p = true) := by
  have hl := h.len
  rintro ⟨-, ho⟩
  have hin := h.in hk hb hn
  unfold okB at ho
  rw [blank_in (by omega), hin, h.start, h.to, decide_eq_false (by omega), decide_eq_false (by omega)] at ho
  simp at ho
theorem told_is (ys : List (List UInt8)) (y : List UInt8) (g : Nat) (folded : Bool) (keep : Nat) :
    toldM (ys ++ [y]) (g + 1) folded keep = blockM (ys ++ [y]) folded ++ List.replicate (if keep = 45 then 0 else if keep = 0 then 1 else g + 1) 10 := by
  unfold toldM feedsM
  rw [List.length_append, List.length_singleton, if_neg (show ¬ ys.length + 1 = 0 by omega), show min (g + 1) 1 = 1 by omega]
theorem bloc_lines {l : List UInt8} {n : Int} {w t keep e g : Nat} {x0 y : List UInt8} {xs tl ys : List (List UInt8)} {rest : List UInt8}
    (hs : startB l 0 = true) (hh : hdM l 1 = (0, keep, e)) (hbad : hdBad l 1 = false) (ht : rowTo l 1 = t) (htl : t < l.length) (hw : 1 ≤ w) (hn : n < w)
    (hx : ∀ x ∈ xs, ∀ b ∈ x, b ≠ 10) (hx1 : xs = x0 :: tl) (h0 : x0 ≠ []) (h32 : byt x0 0 ≠ 32) (hx2 : xs = ys ++ [y] ++ List.replicate g []) (hy : y ≠ [])
    (hd : l.drop (t + 1) = linesR w xs ++ rest) (hstop : ¬ (t + 1 + (linesR w xs).length < l.length ∧ okB l w (t + 1 + (linesR w xs).length) = true)) :
    blocM l 0 n = (⟨1, if folds l 0 then 5 else 4, 0, hdHas l 1, hdTrail l 1, toldM (ys ++ [y]) (g + 1) (folds l 0) keep⟩, ((t + 1 + (linesR w xs).length : Nat) : Int), 0) := by
  have h10 : byt l t = 10 := by rw [← ht]; exact rowTo_off (by rw [ht]; exact htl)
  have hf : rowFrom l (t + 1) = t + 1 := rowFrom_feed h10
  have hd1 := hd
  rw [hx1, linesR_cons, List.append_assoc] at hd1
  have hr := raw_at (hx x0 (by rw [hx1]; simp)) hd1 hf
  obtain ⟨hfr, hwd⟩ := width_at hw hr h0 h32 hn
  have hb : min (rowTo l (0 + 1) + 1) l.length = t + 1 := by
    show min (rowTo l 1 + 1) l.length = t + 1
    rw [ht]
    have := hr.len
    omega
  obtain ⟨hg, -⟩ := go_lines hw xs (t + 1) [] 0 0 rest hx hd hf
  rw [go_stop hstop, List.nil_append, hx2, List.length_nil, fullR_last y hy, feedsR_last y hy, ← hx2] at hg
  have hbm : bodyM l (t + 1) 0 n = (xs, 0 + ys.length + 1, g + 1, t + 1 + (linesR w xs).length) := by
    unfold bodyM bodyW
    rw [if_pos rfl, hwd]
    exact hg
  have hbt : bodyToo l (t + 1) 0 n = none := by
    unfold bodyToo
    rw [if_pos rfl, hwd, hfr]
    exact too_end (Nat.le_refl _)
  have htk : xs.take (0 + ys.length + 1) = ys ++ [y] := by
    rw [hx2, List.take_left' (by simp)]
  unfold blocM
  rw [if_pos hs]
  unfold blocOf
  simp only [Int.toNat_zero]
  rw [hb, show (0 + 1 : Nat) = 1 from rfl, hbad, hh, if_neg (by decide)]
  simp only []
  rw [hbt]
  simp only []
  rw [hbm]
  simp only []
  rw [htk]
  rfl

/-! ### Texts and blank rows between. -/
def rowsU (f : Nat → List UInt8 × Nat) : Nat → List (List UInt8)
  | 0 => []
  | i + 1 => rowsU f i ++ ((f i).1 :: List.replicate (f i).2 [])
def flatU (xs : List (List UInt8)) : List UInt8 := xs.flatMap fun x => x ++ [10]
theorem linesR_rep (w g : Nat) : linesR w (List.replicate g []) = List.replicate g 10 := by
  induction g with
  | zero => rfl
  | succ g ih => rw [List.replicate_succ, linesR_cons, ih, List.replicate_succ]; rfl
theorem flatU_rep (g : Nat) : flatU (List.replicate g []) = List.replicate g 10 := by
  induction g with
  | zero => rfl
  | succ g ih =>
    have : flatU ([] :: List.replicate g []) = [10] ++ flatU (List.replicate g []) := by simp [flatU]
    rw [List.replicate_succ, this, ih, List.replicate_succ]; rfl
theorem flatU_append (a b : List (List UInt8)) : flatU (a ++ b) = flatU a ++ flatU b := by simp [flatU]
theorem rowsU_lines (f : Nat → List UInt8 × Nat) (w i : Nat) (h : (f i).1 ≠ []) : linesR w (rowsU f (i + 1)) = linesR w (rowsU f i) ++ List.replicate w 32 ++ (f i).1 ++ [10] ++ List.replicate (f i).2 10 := by
  rw [rowsU, linesR_append, linesR_cons, linesR_rep, rawR, if_neg h]
  simp
theorem rowsU_flat (f : Nat → List UInt8 × Nat) (i : Nat) : flatU (rowsU f (i + 1)) = flatU (rowsU f i) ++ (f i).1 ++ [10] ++ List.replicate (f i).2 10 := by
  have e : flatU ((f i).1 :: List.replicate (f i).2 []) = (f i).1 ++ [10] ++ flatU (List.replicate (f i).2 []) := by simp [flatU]
  rw [rowsU, flatU_append, e, flatU_rep]
  simp
theorem rowsU_head (f : Nat → List UInt8 × Nat) : ∀ i, 0 < i → ∃ tl, rowsU f i = (f 0).1 :: tl
  | 1, _ => ⟨_, rfl⟩
  | i + 2, _ => by
    obtain ⟨tl, h⟩ := rowsU_head f (i + 1) (by omega)
    exact ⟨_, by rw [rowsU, h, List.cons_append]⟩
theorem rowsU_mem (f : Nat → List UInt8 × Nat) : ∀ i, ∀ x ∈ rowsU f i, x = [] ∨ ∃ j, j < i ∧ x = (f j).1
  | 0, x, h => by cases h
  | i + 1, x, h => by
    rw [rowsU] at h
    rcases List.mem_append.1 h with h | h
    · rcases rowsU_mem f i x h with h | ⟨j, hj, h⟩
      · exact .inl h
      · exact .inr ⟨j, by omega, h⟩
    · rcases List.mem_cons.1 h with h | h
      · exact .inr ⟨i, by omega, h⟩
      · exact .inl (List.eq_of_mem_replicate h)
/-- What a literal of such rows is told as. -/
def wantU (f : Nat → List UInt8 × Nat) (i k : Nat) : List UInt8 :=
  if k < 2 then (flatU (rowsU f (i + 1))).take ((flatU (rowsU f (i + 1))).length - (f i).2 - 1) ++ (if k = 0 then [10] else []) else flatU (rowsU f (i + 1))
def keepU (k : Nat) : Nat := if k = 0 then 0 else if k = 1 then 45 else 43
theorem want_is (f : Nat → List UInt8 × Nat) (i k : Nat) (hk : k < 3) : toldM (rowsU f i ++ [(f i).1]) ((f i).2 + 1) false (keepU k) = wantU f i k := by
  have hj := joinB_feed (rowsU f i ++ [(f i).1]) (by simp)
  have hfl : flatU (rowsU f (i + 1)) = joinB (rowsU f i ++ [(f i).1]) ++ [10] ++ List.replicate (f i).2 10 := by
    rw [hj, rowsU_flat]
    show _ = flatU _ ++ _
    rw [flatU_append]
    simp [flatU]
  have hb : blockM (rowsU f i ++ [(f i).1]) false = joinB (rowsU f i ++ [(f i).1]) := rfl
  have hl : (flatU (rowsU f (i + 1))).length - (f i).2 - 1 = (joinB (rowsU f i ++ [(f i).1])).length := by
    rw [hfl]; simp only [List.length_append, List.length_replicate, List.length_singleton]; omega
  have ht : (flatU (rowsU f (i + 1))).take ((flatU (rowsU f (i + 1))).length - (f i).2 - 1) = joinB (rowsU f i ++ [(f i).1]) := by
    rw [hl, hfl, List.append_assoc, List.take_left']
    rfl
  rw [told_is, hb]
  unfold wantU
  rw [ht, hfl]
  unfold keepU
  rcases (by omega : k = 0 ∨ k = 1 ∨ k = 2) with rfl | rfl | rfl
  · simp
  · simp
  · simp only [Nat.reduceEqDiff, if_false, Nat.reduceLT, List.append_assoc, List.replicate_succ]
    rfl
