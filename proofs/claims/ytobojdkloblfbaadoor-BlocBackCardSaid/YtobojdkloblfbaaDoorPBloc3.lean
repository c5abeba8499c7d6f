/- Plain laws on block scalars: rows that are in by as much each. -/
import Derived.Test.YtobojdkloblfbaaDoorPBloc2
import Derived.Test.YtobojdkloblfbaaDoorPNote2
namespace Go.Proofs.YtobojdkloblfbaaDoor
namespace U
open Go

/-- A row that stands in a text. -/
structure RowAt (l : List UInt8) (p : Nat) (row rest : List UInt8) : Prop where
  drop : l.drop p = row ++ [10] ++ rest
  none : ∀ b ∈ row, b ≠ 10
  start : rowFrom l p = p
theorem RowAt.len {l : List UInt8} {p : Nat} {row rest : List UInt8} (h : RowAt l p row rest) : l.length = p + row.length + 1 + rest.length := by
  have := len_shape h.drop (by simp)
  simp only [List.length_append, List.length_singleton] at this
  omega
theorem RowAt.byte {l : List UInt8} {p : Nat} {row rest : List UInt8} (h : RowAt l p row rest) {j : Nat} (hj : j < row.length) : byt l (p + j) = byt row j := by
  have h := h.drop
  rw [List.append_assoc] at h
  exact byt_shape h hj
theorem RowAt.feed {l : List UInt8} {p : Nat} {row rest : List UInt8} (h : RowAt l p row rest) : byt l (p + row.length) = 10 := by
  have e := byt_shape (j := row.length) h.drop (by simp)
  rw [e, byt_append_right _ _ _ (Nat.le_refl _), Nat.sub_self]
  rfl
theorem byt_has {m : List UInt8} {j : Nat} (h : j < m.length) : ∃ b ∈ m, byt m j = b.toNat := ⟨m[j], List.getElem_mem h, (byt_get _ _ h).symm⟩
theorem RowAt.to {l : List UInt8} {p : Nat} {row rest : List UInt8} (h : RowAt l p row rest) : rowTo l p = p + row.length := by
  have hl := h.len
  refine rowTo_is (by omega) (by omega) (.inr h.feed) fun j h1 h2 => ?_
  obtain ⟨i, rfl⟩ : ∃ i, j = p + i := ⟨j - p, by omega⟩
  rw [h.byte (by omega)]
  obtain ⟨b, hb, e⟩ := byt_has (m := row) (j := i) (by omega)
  rw [e]
  intro hx
  exact h.none b hb (UInt8.toNat_inj.1 hx)
theorem RowAt.row {l : List UInt8} {p : Nat} {row rest : List UInt8} (h : RowAt l p row rest) : rowM l p = row := by
  unfold rowM
  rw [h.start, h.to, h.drop, show p + row.length - p = row.length by omega, List.append_assoc, List.take_left']
  rfl
theorem RowAt.next {l : List UInt8} {p : Nat} {row rest : List UInt8} (h : RowAt l p row rest) : nextM l p = p + row.length + 1 := by
  have := h.len
  unfold nextM
  rw [h.to]
  omega
theorem RowAt.rest {l : List UInt8} {p : Nat} {row rest : List UInt8} (h : RowAt l p row rest) : l.drop (p + row.length + 1) = rest := by
  have := drop_app h.drop
  rw [List.length_append, List.length_singleton] at this
  exact this
theorem RowAt.from {l : List UInt8} {p : Nat} {row rest : List UInt8} (h : RowAt l p row rest) : rowFrom l (p + row.length + 1) = p + row.length + 1 := rowFrom_feed h.feed
theorem RowAt.far {l : List UInt8} {p : Nat} {row rest : List UInt8} (h : RowAt l p row rest) {w : Nat} (hw : w ≤ row.length) (hb : ∀ j, j < w → byt row j = 32) : w ≤ inM l p := by
  have hl := h.len
  unfold inM
  rw [h.start]
  rcases Nat.lt_or_ge (run blankN l p) w with hc | hc
  · exfalso
    have := run_off (P := blankN) (l := l) _ p rfl (by omega)
    rw [h.byte (by omega), hb _ hc] at this
    cases this
  · exact hc
theorem RowAt.in {l : List UInt8} {p : Nat} {row rest : List UInt8} (h : RowAt l p row rest) {w : Nat} (hw : w < row.length) (hb : ∀ j, j < w → byt row j = 32) (hn : byt row w ≠ 32) : inM l p = w := by
  have hl := h.len
  unfold inM
  rw [h.start]
  refine run_is w p (by omega) (fun j h1 h2 => ?_) (.inr ?_)
  · obtain ⟨i, rfl⟩ : ∃ i, j = p + i := ⟨j - p, by omega⟩
    rw [h.byte (by omega), hb _ (by omega)]
    rfl
  · rw [h.byte hw]
    exact decide_eq_false hn
theorem RowAt.blank {l : List UInt8} {p : Nat} {row rest : List UInt8} (h : RowAt l p row rest) : blankB l p = row.all fun b => decide (b.toNat = 32) := by
  unfold blankB
  rw [h.row]
theorem RowAt.notMark {l : List UInt8} {p : Nat} {row rest : List UInt8} (h : RowAt l p row rest) (hb : byt row 0 ≠ 45 ∧ byt row 0 ≠ 46) : markB l p = false := by
  cases hm : markB l p with
  | false => rfl
  | true =>
    exfalso
    have := mark_byte hm
    rw [h.start] at this
    rcases Nat.eq_zero_or_pos row.length with h0 | h0
    · have hf := h.feed
      rw [h0, Nat.add_zero] at hf
      omega
    · have := h.byte (j := 0) h0
      rw [Nat.add_zero] at this
      omega

/-! ### Rows that are in by as much each. -/
def rawR (w : Nat) (x : List UInt8) : List UInt8 := if x = [] then [] else List.replicate w 32 ++ x
def linesR (w : Nat) (xs : List (List UInt8)) : List UInt8 := xs.flatMap fun x => rawR w x ++ [10]
def fullR (n : Nat) : List (List UInt8) → Nat → Nat
  | [], full => full
  | x :: t, full => fullR (n + 1) t (if x = [] then full else n + 1)
def feedsR : List (List UInt8) → Nat → Nat
  | [], feeds => feeds
  | x :: t, feeds => feedsR t ((if x = [] then feeds else 0) + 1)
theorem byt_rep' {w j : Nat} {x : List UInt8} (h : j < w) : byt (List.replicate w 32 ++ x) j = 32 := by
  rw [byt_append_left _ _ _ (by rw [List.length_replicate]; exact h), byt_rep _ _ _ h]
  rfl
theorem linesR_cons (w : Nat) (x : List UInt8) (t : List (List UInt8)) : linesR w (x :: t) = rawR w x ++ [10] ++ linesR w t := by simp [linesR]
theorem linesR_append (w : Nat) (a b : List (List UInt8)) : linesR w (a ++ b) = linesR w a ++ linesR w b := by simp [linesR]
theorem raw_at {l : List UInt8} {w p : Nat} {x rest : List UInt8} (hx : ∀ b ∈ x, b ≠ 10) (hd : l.drop p = rawR w x ++ [10] ++ rest) (hf : rowFrom l p = p) : RowAt l p (rawR w x) rest := by
  refine ⟨hd, fun b hb => ?_, hf⟩
  unfold rawR at hb
  split at hb
  · cases hb
  · rcases List.mem_append.1 hb with h | h
    · rw [List.eq_of_mem_replicate h]; decide
    · exact hx b h
theorem raw_ok {l : List UInt8} {w p : Nat} (hw : 1 ≤ w) {x rest : List UInt8} (h : RowAt l p (rawR w x) rest) : okB l w p = true ∧ textB l w p = x := by
  have hl := h.len
  unfold okB textB
  rw [h.row]
  by_cases hx : x = []
  · subst hx
    have hb : blankB l p = true := by rw [h.blank]; rfl
    rw [blank_mark (by omega) hb, hb]
    exact ⟨rfl, by simp [rawR]⟩
  · have e : rawR w x = List.replicate w 32 ++ x := if_neg hx
    have hb : ∀ j, j < w → byt (rawR w x) j = 32 := fun j hj => by rw [e]; exact byt_rep' hj
    have h0 := hb 0 (by omega)
    rw [h.notMark (by omega), decide_eq_true (h.far (w := w) (by rw [e]; simp) hb), e, Bool.or_true]
    refine ⟨rfl, ?_⟩
    rw [List.drop_left' (by simp)]
theorem go_lines {l : List UInt8} {w : Nat} (hw : 1 ≤ w) : ∀ (xs : List (List UInt8)) (p : Nat) (acc : List (List UInt8)) (full feeds : Nat) (rest : List UInt8), (∀ x ∈ xs, ∀ b ∈ x, b ≠ 10) →
    l.drop p = linesR w xs ++ rest → rowFrom l p = p →
    goM l w p acc full feeds = goM l w (p + (linesR w xs).length) (acc ++ xs) (fullR acc.length xs full) (feedsR xs feeds) ∧ rowFrom l (p + (linesR w xs).length) = p + (linesR w xs).length := by
  intro xs
  induction xs with
  | nil => intro p acc full feeds rest _ _ hf; simp [linesR, fullR, feedsR, hf]
  | cons x t ih =>
    intro p acc full feeds rest hx hd hf
    rw [linesR_cons, List.append_assoc] at hd
    have hr := raw_at (hx x (by simp)) hd hf
    have hl := hr.len
    obtain ⟨h1, h2⟩ := raw_ok hw hr
    rw [go_go (by omega) h1, h2, hr.next]
    obtain ⟨h3, h4⟩ := ih (p + (rawR w x).length + 1) (acc ++ [x]) (if x = [] then full else acc.length + 1) ((if x = [] then feeds else 0) + if rowTo l p < l.length then 1 else 0) rest
      (fun y hy => hx y (by simp [hy])) hr.rest hr.from
    have e : p + (rawR w x).length + 1 + (linesR w t).length = p + (linesR w (x :: t)).length := by
      rw [linesR_cons]; simp only [List.length_append, List.length_singleton]; omega
    rw [e] at h3 h4
    refine ⟨?_, h4⟩
    rw [h3, if_pos (show rowTo l p < l.length by rw [hr.to]; omega), fullR, feedsR, List.append_assoc, List.singleton_append, List.length_append, List.length_singleton]
theorem fullR_blank : ∀ (g n full : Nat), fullR n (List.replicate g []) full = full
  | 0, _, _ => rfl
  | g + 1, n, full => by rw [List.replicate_succ, fullR, if_pos rfl, fullR_blank g]
theorem feedsR_blank : ∀ (g f : Nat), feedsR (List.replicate g []) f = g + f
  | 0, _ => by simp [feedsR]
  | g + 1, f => by rw [List.replicate_succ, feedsR, if_pos rfl, feedsR_blank g]; omega
theorem fullR_last (y : List UInt8) (hy : y ≠ []) (g : Nat) : ∀ (ys : List (List UInt8)) (n full : Nat), fullR n (ys ++ [y] ++ List.replicate g []) full = n + ys.length + 1
  | [], n, full => by
    rw [List.nil_append, List.singleton_append, fullR, if_neg hy, fullR_blank]; rfl
  | z :: ys, n, full => by
    rw [List.cons_append, List.cons_append, fullR, fullR_last y hy g ys, List.length_cons]; omega
theorem feedsR_last (y : List UInt8) (hy : y ≠ []) (g : Nat) : ∀ (ys : List (List UInt8)) (f : Nat), feedsR (ys ++ [y] ++ List.replicate g []) f = g + 1
  | [], f => by
    rw [List.nil_append, List.singleton_append, feedsR, if_neg hy, feedsR_blank]
  | z :: ys, f => by
    rw [List.cons_append, List.cons_append, feedsR, feedsR_last y hy g ys]
theorem joinB_feed : ∀ (xs : List (List UInt8)), xs ≠ [] → joinB xs ++ [10] = xs.flatMap fun x => x ++ [10]
  | [], h => absurd rfl h
  | [x], _ => by simp [joinB]
  | x :: y :: t, _ => by
    rw [joinB_two, List.append_assoc, joinB_feed (y :: t) (by simp)]
    simp
/-- Where the first row is not blank. -/
theorem width_at {l : List UInt8} {w p : Nat} {n : Int} (hw : 1 ≤ w) {x rest : List UInt8} (h : RowAt l p (rawR w x) rest) (hx : x ≠ []) (h0 : byt x 0 ≠ 32) (hn : n < w) :
    frontM l p = p ∧ widthM l p n = w := by
  have hl := h.len
  have e : rawR w x = List.replicate w 32 ++ x := if_neg hx
  have hxl : 0 < x.length := List.length_pos_iff.2 hx
  have hb : ∀ j, j < w → byt (rawR w x) j = 32 := fun j hj => by rw [e]; exact byt_rep' hj
  have hw' : byt (rawR w x) w = byt x 0 := by
    rw [e, byt_append_right _ _ _ (by simp), List.length_replicate, Nat.sub_self]
  have hin : inM l p = w := h.in (by rw [e]; simp; omega) hb (by omega)
  have hnb : blankB l p = false := by
    rw [blank_in (by omega), hin, h.start, h.to, e]
    exact decide_eq_false (by simp; omega)
  have hf : frontM l p = p := front_stop (by rw [hnb]; simp)
  refine ⟨hf, ?_⟩
  have h00 := hb 0 (by omega)
  unfold widthM
  rw [hf, hin, if_pos ⟨by omega, h.notMark (by omega), by omega⟩]
