/- Plain laws on block scalars: the document's way. -/
import Derived.Test.YtobojdkloblfbaaDoorPBloc2
namespace Go.Proofs.YtobojdkloblfbaaDoor
namespace U
open Go

/-- How many line feeds stand in so many bytes from a place on. -/
def cntN (l : List UInt8) : Nat → Nat → Nat
  | _, 0 => 0
  | a, k + 1 => (if byt l a = 10 then 1 else 0) + cntN l (a + 1) k
theorem cntN_add (l : List UInt8) : ∀ (k a m : Nat), cntN l a (k + m) = cntN l a k + cntN l (a + k) m
  | 0, a, m => by simp [cntN]
  | k + 1, a, m => by
    rw [show k + 1 + m = (k + m) + 1 by omega, cntN, cntN, cntN_add l k (a + 1) m, show a + 1 + k = a + (k + 1) by omega]
    omega
theorem cntN_none (l : List UInt8) : ∀ (k a : Nat), (∀ j, a ≤ j → j < a + k → byt l j ≠ 10) → cntN l a k = 0
  | 0, _, _ => rfl
  | k + 1, a, h => by
    rw [cntN, if_neg (h a (Nat.le_refl _) (by omega)), cntN_none l k (a + 1) (fun j h1 h2 => h j (by omega) (by omega))]
theorem cntN_le (l : List UInt8) : ∀ (k a : Nat), cntN l a k ≤ k
  | 0, _ => Nat.le_refl _
  | k + 1, a => by
    have := cntN_le l k (a + 1)
    rw [cntN]
    split <;> omega
theorem cnt_row {l : List UInt8} {p : Nat} (hp : p < l.length) : cntN l p (nextM l p - p) = if rowTo l p < l.length then 1 else 0 := by
  have h1 := rowTo_ge l p
  have h2 := rowTo_le (Nat.le_of_lt hp)
  have h0 : cntN l p (rowTo l p - p) = 0 := cntN_none l _ p fun j a b => rowTo_in (by omega) (by omega)
  unfold nextM
  split
  · rename_i h
    rw [show min (rowTo l p + 1) l.length - p = (rowTo l p - p) + 1 by omega, cntN_add, h0, show p + (rowTo l p - p) = rowTo l p by omega, cntN, if_pos (rowTo_off h), cntN]
  · rw [show min (rowTo l p + 1) l.length - p = rowTo l p - p by omega, h0]
theorem cnt_end {l : List UInt8} {p : Nat} (hp : p < l.length) : cntN l (rowTo l p) (nextM l p - rowTo l p) = if rowTo l p < l.length then 1 else 0 := by
  have h2 := rowTo_le (Nat.le_of_lt hp)
  unfold nextM
  split
  · rename_i h
    rw [show min (rowTo l p + 1) l.length - rowTo l p = 0 + 1 by omega, cntN, if_pos (rowTo_off h), cntN]
  · rw [show min (rowTo l p + 1) l.length - rowTo l p = 0 by omega, cntN]

/-- How far rows are in, as the document reckons. -/
def refW (l : List UInt8) (b d : Nat) (n : Int) : Nat :=
  if d = 0 then (if frontM l b < l.length ∧ markB l (frontM l b) = false ∧ n < (inM l (frontM l b) : Int) then inM l (frontM l b) else l.length + 1) else d + (min (max n 0) (l.length + 1)).toNat
theorem refW_go (l : List UInt8) (b d : Nat) (n : Int) : goM l (refW l b d n) b [] 0 0 = bodyM l b d n := by
  unfold bodyM refW bodyW widthM
  split
  · split
    · rfl
    · exact go_far (Nat.le_succ _) (Nat.le_refl _) _ b _ _ _ (Nat.le_refl _)
  · rfl
theorem refW_too {l : List UInt8} {b d : Nat} {n : Int} (hf : frontM l b ≤ l.length) : (if d = 0 then tooM l (refW l b d n) (frontM l b) b else none) = bodyToo l b d n := by
  unfold bodyToo refW widthM
  split
  · split
    · rfl
    · rw [too_far (Nat.le_succ _) hf _ b (Nat.le_refl _), too_far (Nat.le_refl _) hf _ b (Nat.le_refl _)]
  · rfl
/-- Where the document's loop stands. -/
structure RS (l : List UInt8) (W d : Nat) (T : Option Nat) (R : Went) (p : Nat) (acc : List (List UInt8)) (full behind : Nat) (first : Bool) : Prop where
  le : p ≤ l.length + 1
  go : goM l W (min p l.length) acc full (cntN l behind (min p l.length - behind)) = R
  beh : behind ≤ min p l.length
  st : St l (min p l.length)
  too : if first = true ∧ d = 0 then tooM l W (frontM l (min p l.length)) (min p l.length) = T else T = none
  accl : acc.length ≤ min p l.length
  fulle : full ≤ acc.length
section
variable {l : List UInt8} {W d : Nat} {T : Option Nat} {R : Went} {p : Nat} {acc : List (List UInt8)} {full behind : Nat} {first : Bool}
theorem RS.none_of (h : RS l W d T R p acc full behind first) (hf : frontM l (min p l.length) = min p l.length) : T = none := by
  have := h.too
  split at this
  · rw [← this, hf]
    exact too_end (Nat.le_refl _)
  · exact this
theorem RS.done (h : RS l W d T R p acc full behind first) (hp : l.length ≤ p) : T = none ∧ R = (acc, full, cntN l behind (l.length - behind), l.length) := by
  have e : min p l.length = l.length := by omega
  refine ⟨h.none_of (by rw [e]; exact front_stop (by omega)), ?_⟩
  rw [← h.go, e, go_stop (by omega)]
theorem RS.stop (h : RS l W d T R p acc full behind first) (hp : p < l.length) (hb : blankB l p = false) (ho : okB l W p = false) : T = none ∧ R = (acc, full, cntN l behind (p - behind), p) := by
  have e : min p l.length = p := by omega
  refine ⟨h.none_of (by rw [e]; exact front_stop (by rw [hb]; simp)), ?_⟩
  rw [← h.go, e, go_stop (by rw [ho]; simp)]
theorem RS.bad (h : RS l W d T R p acc full behind first) (hp : p < l.length) (hb : blankB l p = true) (hf : first = true) (hd : d = 0) (hw : W < inM l p) : T = some (p + W) := by
  have e : min p l.length = p := by omega
  have ht := h.too
  rw [if_pos ⟨hf, hd⟩, e] at ht
  have hfr := front_is l _ p (Nat.le_refl _) (Nat.le_of_lt hp) (by have := h.st; rw [e] at this; exact this)
  have hg := front_go hp hb
  have hn := (front_is l _ (nextM l p) (Nat.le_refl _) (next_le l p) (st_next l p)).1
  have := next_gt hp
  rw [too_go hfr.2.1 (by omega)] at ht
  rw [blank_in (Nat.le_of_lt hp), decide_eq_true_iff] at hb
  rw [if_pos (by omega)] at ht
  exact ht.symm
theorem RS.next (h : RS l W d T R p acc full behind first) (hp : p < l.length) (ho : okB l W p = true) (hb : blankB l p = true → first = true → d = 0 → ¬ W < inM l p) :
    RS l W d T R (rowTo l p + 1) (acc ++ [textB l W p]) (if textB l W p = [] then full else acc.length + 1) (if textB l W p = [] then behind else rowTo l p) (if blankB l p then first else false) := by
  have e : min p l.length = p := by omega
  have h2 := rowTo_le (Nat.le_of_lt hp)
  have h3 := rowTo_ge l p
  have h4 := next_gt hp
  have en : min (rowTo l p + 1) l.length = nextM l p := rfl
  have hbe := h.beh
  have ha := h.accl
  have hfu := h.fulle
  rw [e] at hbe ha
  refine ⟨by omega, ?_, ?_, by rw [en]; exact st_next l p, ?_, by rw [en, List.length_append, List.length_singleton]; omega, by rw [List.length_append, List.length_singleton]; split <;> omega⟩
  · have hg := h.go
    rw [e, go_go hp ho] at hg
    rw [en, ← hg]
    congr 1
    by_cases ht : textB l W p = []
    · rw [if_pos ht, if_pos ht, show nextM l p - behind = (p - behind) + (nextM l p - p) by omega, cntN_add, show behind + (p - behind) = p by omega, cnt_row hp]
    · rw [if_neg ht, if_neg ht, cnt_end hp, Nat.zero_add]
  · rw [en]
    have : rowTo l p ≤ nextM l p := by unfold nextM; omega
    split <;> omega
  · have ht := h.too
    rw [e] at ht
    rw [en]
    cases hbl : blankB l p with
    | true =>
      simp only [if_true]
      by_cases hfd : first = true ∧ d = 0
      · rw [if_pos hfd] at ht ⊢
        rw [front_go hp hbl] at ht
        have hfn := front_is l _ (nextM l p) (Nat.le_refl _) (next_le l p) (st_next l p)
        rw [too_go hfn.2.1 (by omega)] at ht
        have hnb := hb hbl hfd.1 hfd.2
        have hbl' := hbl
        rw [blank_in (Nat.le_of_lt hp), decide_eq_true_iff] at hbl'
        rw [if_neg (by omega)] at ht
        exact ht
      · rw [if_neg hfd] at ht ⊢
        exact ht
    | false =>
      simp only [Bool.false_eq_true, if_false, false_and]
      have hnone := h.none_of (by rw [e]; exact front_stop (by rw [hbl]; simp))
      exact hnone
end
theorem rs_start {l : List UInt8} {b d : Nat} {n : Int} (hb : b ≤ l.length) (hst : St l b) : RS l (refW l b d n) d (bodyToo l b d n) (bodyM l b d n) b [] 0 b true := by
  have e : min b l.length = b := by omega
  have hf := front_is l _ b (Nat.le_refl _) hb hst
  refine ⟨by omega, ?_, by omega, by rw [e]; exact hst, ?_, Nat.zero_le _, Nat.le_refl _⟩
  · rw [e, Nat.sub_self, cntN, refW_go]
  · have ht := refW_too (d := d) (n := n) hf.2.1
    rw [e]
    by_cases hd : d = 0
    · rw [if_pos hd] at ht
      rw [if_pos ⟨rfl, hd⟩]
      exact ht
    · rw [if_neg hd] at ht
      rw [if_neg (fun x => hd x.2)]
      exact ht.symm
theorem text_ref {l : List UInt8} {W p : Nat} (hp : p < l.length) (hs : rowFrom l p = p) : textB l W p = if W < rowTo l p - p then (l.drop (p + W)).take (rowTo l p - (p + W)) else [] := by
  have hl := textB_len (w := W) (Nat.le_of_lt hp)
  rw [hs] at hl
  split
  · unfold textB rowM
    rw [hs, List.drop_take, List.drop_drop]
    congr 1
    omega
  · exact List.length_eq_zero_iff.1 (by omega)
