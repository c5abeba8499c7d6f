/- A region that draws its order, whose last operation waits for all others: that one is set behind the rest. -/
import Derived.OrdersHeld
import Derived.Deep.RegionHeld
namespace Go.Proofs.YtjfgcbikdibjeaaGreatDoor
open Go

/-- The last operation waits for each other one, at most by way of one more; nothing waits for what comes later; nothing is guarded. -/
def peelB (md : Region.Mode) (l : List Oper) (o : Oper) : Bool :=
  o.guard.isNone && l.all (fun x => x.guard.isNone) &&
  ((List.range l.length).all fun j => (o.after.any fun e => Region.binds md e && e.on == j) || (o.after.any fun e => Region.binds md e && (match l[e.on]? with | some k => k.after.any fun e2 => Region.binds md e2 && e2.on == j | none => false))) &&
  ((List.range l.length).all fun j => match l[j]? with | some k => k.after.all fun e => !Region.binds md e || decide (e.on < j) | none => true) &&
  (o.after.all fun e => !Region.binds md e || decide (e.on < l.length))
/-- What is asked behind the rest: the last operation. -/
def Peel (P : Program) (o : Oper) (Q : Exit → Act → World → Prop) : Exit → Act → World → Prop
  | .normal, a, w => o.wp P a w (Q .normal) Q
  | e, a, w => Q e a w
section
variable {P : Program} {md : Region.Mode} {l : List Oper} {o : Oper} {Q : Exit → Act → World → Prop}

theorem upon_peel {x : Oper} {a : Act} {w : World} {K K' : Act → World → Prop} (h : ∀ a w, K a w → K' a w) (hh : x.wp P a w K (Peel P o Q)) : x.wp P a w K' Q := by
  unfold Oper.wp at *
  generalize (execOp a.eval x).run P w = r at *
  cases r with
  | ok n w' =>
    cases n <;> simp only [Oper.upon] at hh ⊢ <;>
      first
        | exact h _ _ hh
        | exact Calls.mono hh (fun e w'' he => by
            cases e with
            | returned v => exact h _ _ he
            | panicked c => exact he
            | outgrown => exact he)
        | exact Rows.mono hh (fun _ _ he => h _ _ he)
  | halt x w' => cases x <;> simp only [Oper.upon] at hh ⊢ <;> exact hh
theorem wpOp_peel {l2 : List Oper} {i : Nat} {x : Oper} (hx : l[i]? = some x) (hx2 : l2[i]? = some x) (hg : x.guard = none) {a : Act} {w : World} {K K' : Act → World → Prop} (h : ∀ a w, K a w → K' a w)
    (hh : wpOp P l.toArray (Peel P o Q) i K a w) : wpOp P l2.toArray Q i K' a w := by
  have hw : ∀ y, Region.wanted x y = true := fun y => by simp [Region.wanted, hg]
  unfold wpOp at *
  simp only [List.getElem?_toArray, hx, hx2, hw, if_true] at hh ⊢
  rcases hh with hh | ⟨h1, h2⟩
  · exact .inl (upon_peel h hh)
  · exact .inr ⟨h1, h2⟩
theorem getD_push {b : Array Bool} (k : Nat) : (b.push false).getD k false = b.getD k false := by
  simp only [Array.getD_eq_getD_getElem?, Array.getElem?_push]
  split
  · rename_i h; subst h; simp
  · rfl
theorem getD_push_true {b : Array Bool} {k : Nat} (h : k < b.size) : (b.push false).getD k true = b.getD k true := by
  simp only [Array.getD_eq_getD_getElem?, Array.getElem?_push]
  rw [if_neg (by omega)]
def lastReady (md : Region.Mode) (o : Oper) (b : Array Bool) : Bool := o.after.all fun e => !Region.binds md e || b.getD e.on false
theorem ready_push {b : Array Bool} (hb : b.size = l.length) : Region.ready md (l ++ [o]).toArray (b.push false) = Region.ready md l.toArray b ++ (if lastReady md o b = true then [l.length] else []) := by
  unfold Region.ready
  have hs : (l ++ [o]).toArray.size = l.length + 1 := by simp
  have hs2 : l.toArray.size = l.length := by simp
  rw [hs, hs2, List.range_succ, List.filter_append]
  congr 1
  · apply List.filter_congr
    intro i hi
    have hi : i < l.length := by simpa using hi
    rw [getD_push_true (by omega)]
    simp only [List.getElem?_toArray, List.getElem?_append_left hi, getD_push]
  · have h1 : (b.push false).getD l.length true = false := by
      simp only [Array.getD_eq_getD_getElem?, Array.getElem?_push, hb]
      simp
    rw [List.filter_cons, List.filter_nil]
    simp only [h1, List.getElem?_toArray, List.getElem?_append_right (Nat.le_refl _), Nat.sub_self, getD_push, lastReady]
    simp
/-- What has come up has had come up what it waits for. -/
def Closed (md : Region.Mode) (l : List Oper) (b : Array Bool) : Prop := ∀ (j : Nat) (x : Oper), l[j]? = some x → b.getD j false = true → ∀ e ∈ x.after, Region.binds md e = true → b.getD e.on false = true
theorem mem_ready' {b : Array Bool} {i : Nat} : i ∈ Region.ready md l.toArray b ↔ b.getD i true = false ∧ ∃ x, l[i]? = some x ∧ ∀ e ∈ x.after, Region.binds md e = true → b.getD e.on false = true := by
  unfold Region.ready
  rw [List.mem_filter]
  constructor
  · rintro ⟨h1, h2⟩
    have h1 : i < l.length := by simpa using h1
    simp only [Bool.and_eq_true, Bool.not_eq_true', List.getElem?_toArray] at h2
    refine ⟨h2.1, l[i], List.getElem?_eq_getElem h1, ?_⟩
    have h3 := h2.2
    rw [List.getElem?_eq_getElem h1] at h3
    simp only [Option.map_some, Option.getD_some] at h3
    intro e he hb
    have := Array.all_eq_true_iff_forall_mem.1 h3 e he
    simp [hb] at this
    simpa using this
  · rintro ⟨h1, x, hx, h2⟩
    have hl : i < l.length := (List.getElem?_eq_some_iff.1 hx).1
    refine ⟨by simpa using hl, ?_⟩
    simp only [Bool.and_eq_true, Bool.not_eq_true', List.getElem?_toArray, hx, Option.map_some, Option.getD_some]
    refine ⟨h1, Array.all_eq_true_iff_forall_mem.2 fun e he => ?_⟩
    cases hb : Region.binds md e with
    | false => rfl
    | true => simpa using h2 e he hb
theorem getD_set_self {b : Array Bool} {i : Nat} (h : i < b.size) (d : Bool) : (b.setIfInBounds i true).getD i d = true := by
  simp [Array.getD_eq_getD_getElem?, h]
theorem getD_set_other {b : Array Bool} {i j : Nat} (h : i ≠ j) (d : Bool) : (b.setIfInBounds i true).getD j d = b.getD j d := by
  simp [Array.getD_eq_getD_getElem?, h]
theorem getD_mono {b : Array Bool} {i j : Nat} (h : b.getD j false = true) : (b.setIfInBounds i true).getD j false = true := by
  by_cases hij : i = j
  · subst hij
    have : i < b.size := by
      rcases Nat.lt_or_ge i b.size with h1 | h1
      · exact h1
      · simp [Array.getD_eq_getD_getElem?, Array.getElem?_eq_none h1] at h
    exact getD_set_self this _
  · rw [getD_set_other hij]; exact h
theorem Closed.set {b : Array Bool} {i : Nat} (h : Closed md l b) (hi : i ∈ Region.ready md l.toArray b) : Closed md l (b.setIfInBounds i true) := by
  intro j x hx hj e he hbe
  by_cases hij : i = j
  · subst hij
    obtain ⟨_, y, hy, h2⟩ := mem_ready'.1 hi
    rw [hx] at hy
    injection hy with hy
    subst hy
    exact getD_mono (h2 e he hbe)
  · rw [getD_set_other hij] at hj
    exact getD_mono (h j x hx hj e he hbe)
theorem getD_in2 {b : Array Bool} {j : Nat} (hj : j < b.size) (d d' : Bool) : b.getD j d = b.getD j d' := by
  simp [Array.getD_eq_getD_getElem?, hj]
structure PeelOK (md : Region.Mode) (l : List Oper) (o : Oper) : Prop where
  og : o.guard = none
  lg : ∀ (i : Nat) (x : Oper), l[i]? = some x → x.guard = none
  cov : ∀ j, j < l.length → (∃ e ∈ o.after, Region.binds md e = true ∧ e.on = j) ∨ (∃ e ∈ o.after, Region.binds md e = true ∧ ∃ k, l[e.on]? = some k ∧ ∃ e2 ∈ k.after, Region.binds md e2 = true ∧ e2.on = j)
  back : ∀ (j : Nat) (x : Oper), l[j]? = some x → ∀ e ∈ x.after, Region.binds md e = true → e.on < j
  lback : ∀ e ∈ o.after, Region.binds md e = true → e.on < l.length
theorem peel_ok (h : peelB md l o = true) : PeelOK md l o := by
  unfold peelB at h
  simp only [Bool.and_eq_true] at h
  obtain ⟨⟨⟨⟨h1, h2⟩, h3⟩, h4⟩, h5⟩ := h
  refine ⟨by simpa using h1, fun i x hx => ?_, fun j hj => ?_, fun j x hx e he hb => ?_, fun e he hb => ?_⟩
  · have := List.all_eq_true.1 h2 x (List.mem_of_getElem? hx)
    simpa using this
  · have := List.all_eq_true.1 h3 j (by simpa using hj)
    rw [Bool.or_eq_true] at this
    rcases this with this | this
    · left
      obtain ⟨e, he, h⟩ := Array.any_eq_true'.1 this
      simp at h
      exact ⟨e, he, h.1, h.2⟩
    · right
      obtain ⟨e, he, h⟩ := Array.any_eq_true'.1 this
      rw [Bool.and_eq_true] at h
      refine ⟨e, he, h.1, ?_⟩
      have h' := h.2
      split at h'
      · rename_i k hk
        refine ⟨k, hk, ?_⟩
        obtain ⟨e2, he2, h⟩ := Array.any_eq_true'.1 h'
        simp at h
        exact ⟨e2, he2, h.1, h.2⟩
      · cases h'
  · have := List.all_eq_true.1 h4 j (by have := (List.getElem?_eq_some_iff.1 hx).1; simpa using this)
    rw [hx] at this
    have := Array.all_eq_true_iff_forall_mem.1 this e he
    simpa [hb] using this
  · have := Array.all_eq_true_iff_forall_mem.1 h5 e he
    simpa [hb] using this
/-- Nothing of the rest can come up: all of it has. -/
theorem all_up (hp : PeelOK md l o) {b : Array Bool} (hb : b.size = l.length) (hr : Region.ready md l.toArray b = []) : ∀ j, j < l.length → b.getD j false = true := by
  intro j
  induction j using Nat.strongRecOn with
  | _ j ih =>
    intro hj
    cases h : b.getD j false with
    | true => rfl
    | false =>
      exfalso
      have : j ∈ Region.ready md l.toArray b := mem_ready'.2 ⟨by rw [getD_in2 (by omega) true false]; exact h, l[j], List.getElem?_eq_getElem hj, fun e he hbe => by
        have hlt := hp.back j _ (List.getElem?_eq_getElem hj) e he hbe
        exact ih e.on hlt (by omega)⟩
      rw [hr] at this
      cases this
theorem last_up (hp : PeelOK md l o) {b : Array Bool} (h : ∀ j, j < l.length → b.getD j false = true) : lastReady md o b = true :=
  Array.all_eq_true_iff_forall_mem.2 fun e he => by
    cases hb : Region.binds md e with
    | false => rfl
    | true => simpa using h _ (hp.lback e he hb)
theorem last_waits (hp : PeelOK md l o) {b : Array Bool} (hc : Closed md l b) (h : lastReady md o b = true) : ∀ j, j < l.length → b.getD j false = true := by
  intro j hj
  have hall : ∀ e ∈ o.after, Region.binds md e = true → b.getD e.on false = true := fun e he hb => by
    have := Array.all_eq_true_iff_forall_mem.1 h e he
    simpa [hb] using this
  rcases hp.cov j hj with ⟨e, he, hb, rfl⟩ | ⟨e, he, hb, k, hk, e2, he2, hb2, rfl⟩
  · exact hall e he hb
  · exact hc e.on k hk (hall e he hb) e2 he2 hb2
theorem ready_none {ops : Array Oper} {b : Array Bool} (h : ∀ j, j < ops.size → b.getD j true = true) : Region.ready md ops b = [] := by
  unfold Region.ready
  rw [List.filter_eq_nil_iff]
  intro i hi
  rw [h i (by simpa using hi)]
  simp
theorem wpAny_last (hp : PeelOK md l o) {b : Array Bool} (hb : b.size = l.length) (hr : Region.ready md l.toArray b = []) {a : Act} {w : World} (h : Peel P o Q .normal a w) : ∀ fuel, wpAny P md (l ++ [o]).toArray Q (fuel + 1) (b.push false) a w := by
  intro fuel
  have hup := all_up hp hb hr
  have hrr := ready_push (md := md) (o := o) hb
  rw [hr, if_pos (last_up hp hup), List.nil_append] at hrr
  refine ⟨fun h0 => (by rw [hrr] at h0; cases h0), fun i hi => ?_⟩
  rw [hrr] at hi
  obtain rfl : i = l.length := by simpa using hi
  have hall : Region.ready md (l ++ [o]).toArray ((b.push false).setIfInBounds l.length true) = [] := ready_none fun j hj => by
    by_cases hjl : l.length = j
    · subst hjl; exact getD_set_self (by simp [hb]) _
    · rw [getD_set_other hjl, getD_push_true (by simp at hj; omega), getD_in2 (by simp at hj; omega) true false]
      exact hup j (by simp at hj; omega)
  unfold wpOp
  have hw : ∀ y, Region.wanted o y = true := fun y => by simp [Region.wanted, hp.og]
  simp only [List.getElem?_toArray, List.getElem?_append_right (Nat.le_refl _), Nat.sub_self, List.getElem?_cons_zero, hw, if_true]
  left
  have h' : o.wp P a w (Q .normal) Q := h
  refine Oper.wp_mono (fun a' w' hq => ?_) h'
  cases fuel with
  | zero => exact ⟨hall, hq⟩
  | succ f => exact ⟨fun _ => hq, by rw [hall]; simp⟩
theorem wpAny_peel (hp : PeelOK md l o) : ∀ (fuel : Nat) (b : Array Bool) (a : Act) (w : World), b.size = l.length → Closed md l b → wpAny P md l.toArray (Peel P o Q) fuel b a w → wpAny P md (l ++ [o]).toArray Q (fuel + 1) (b.push false) a w := by
  intro fuel
  induction fuel with
  | zero => intro b a w hb _ h; exact wpAny_last hp hb h.1 h.2 0
  | succ fuel ih =>
    intro b a w hb hc h
    cases hr : Region.ready md l.toArray b with
    | nil => exact wpAny_last hp hb hr (h.1 hr) (fuel + 1)
    | cons i0 rest =>
      have hno : ¬ lastReady md o b = true := fun hl => by
        have hm : i0 ∈ Region.ready md l.toArray b := by rw [hr]; simp
        obtain ⟨h1, x, hx, _⟩ := mem_ready'.1 hm
        have hlt := (List.getElem?_eq_some_iff.1 hx).1
        have := last_waits hp hc hl i0 hlt
        rw [getD_in2 (by omega) false true, h1] at this
        cases this
      have hrr := ready_push (md := md) (o := o) hb
      rw [if_neg hno, List.append_nil] at hrr
      refine ⟨fun h0 => (by rw [hrr, hr] at h0; cases h0), fun i hi => ?_⟩
      rw [hrr] at hi
      obtain ⟨_, x, hx, _⟩ := mem_ready'.1 hi
      have hlt := (List.getElem?_eq_some_iff.1 hx).1
      refine wpOp_peel hx (by rw [List.getElem?_append_left hlt]; exact hx) (hp.lg i x hx) (fun a' w' hk => ?_) (h.2 i hi)
      have := ih (b.setIfInBounds i true) a' w' (by simpa using hb) (hc.set hi) hk
      have e : (b.push false).setIfInBounds i true = (b.setIfInBounds i true).push false := by
        apply Array.ext_getElem?
        intro k
        simp only [Array.getElem?_setIfInBounds, Array.getElem?_push, Array.size_setIfInBounds, Array.size_push]
        repeat' split
        all_goals first | rfl | omega | (subst_vars; omega)
      rw [e]
      exact this
/-- THE LAW: the last operation is set behind the rest. -/
theorem wp_region_peel {id : Nat} {a : Act} {w : World} {L : List Oper} {S : World → Prop} (hm : P.follows .mixedOrders = true) (ho : L.getLast? = some o) (hB : peelB .any L.dropLast o = true)
    (h : wpAnyH P .any L.dropLast.toArray (Peel P o Q) S L.dropLast.length (Array.replicate L.dropLast.length false) a w.drew) : (Code.region id L.toArray true).wp P Q a w := by
  obtain ⟨l, rfl⟩ := List.getLast?_eq_some_iff.1 ho
  rw [List.dropLast_concat] at hB h
  have hp := peel_ok hB
  refine wp_region_any hm ?_
  have hrep : Array.replicate (l ++ [o]).toArray.size false = (Array.replicate l.length false).push false := by
    rw [show (l ++ [o]).toArray.size = l.length + 1 by simp, Array.replicate_succ]
  have hsz : (l ++ [o]).toArray.size = l.length + 1 := by simp
  rw [hrep, hsz]
  refine wpAny_peel hp _ _ _ _ (by simp) (fun j x hx hj => ?_) (wpAny_of_held _ _ _ _ h)
  exfalso
  rw [Array.getD_eq_getD_getElem?, Array.getElem?_replicate] at hj
  split at hj <;> cases hj
end
end Go.Proofs.YtjfgcbikdibjeaaGreatDoor
