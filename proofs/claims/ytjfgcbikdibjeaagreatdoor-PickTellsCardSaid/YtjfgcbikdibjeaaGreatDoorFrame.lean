/- Memory of a call's own: a block that is known whole; only one block, and what is new, has turned. -/
import Derived.Test.YtjfgcbikdibjeaaGreatDoorBase
import Derived.Laws.Rows
import Derived.Laws.OwnMore
import Derived.Deep.AppendLies
import Derived.Deep.RegionHeld3
import Derived.Deep.QuietTactic
import Derived.BigQuiet
namespace Go.Proofs.YtjfgcbikdibjeaaGreatDoor
open Go.RowKit U

/-- A block holds just these cells, each free. -/
def Full (w : World) (g : Nat) (t : TypeId) (cs : List Value) : Prop := w.heap[g]? = some (.cells cs.toArray t (0, 0))
section
variable {w w' a : World} {g : Nat} {t : TypeId} {cs : List Value}
theorem Full.lt (h : Full w g t cs) : g < w.heap.size := (Array.getElem?_eq_some_iff.1 h).1
theorem Full.cell (h : Full w g t cs) (i : Nat) : w.cell? ⟨g, i, none⟩ = cs[i]? := by
  rw [cell_of_row w g i _ t (0, 0) h]; simp
theorem Full.free (h : Full w g t cs) (i : Nat) : w.frozen? ⟨g, i, none⟩ = false := by
  unfold Full at h
  simp [World.frozen?, h]
theorem Full.new (w : World) (t : TypeId) (cs : List Value) : Full (w.alloc (.cells cs.toArray t)) w.heap.size t cs := heap_alloc_new w _
theorem Full.drewN (h : Full w g t cs) (n : Nat) : Full (w.drewN n) g t cs := h
theorem Full.of_eq (h : Full w g t cs) (he : w'.heap[g]? = w.heap[g]?) : Full w' g t cs := he.trans h
theorem Full.alloc (h : Full w g t cs) (o : Obj) : Full (w.alloc o) g t cs := h.of_eq (heap_alloc_old w o h.lt)
theorem Full.put (h : Full w g t cs) (i : Nat) (u : Value) : Full (w.setCell ⟨g, i, none⟩ u) g t (cs.set i u) := by
  unfold Full at h ⊢
  simp [World.setCell, Array.getElem?_modify, h]
theorem Full.put_far (h : Full w g t cs) {p : Addr} (hp : p.block ≠ g) (u : Value) : Full (w.setCell p u) g t cs := by
  refine h.of_eq ?_
  simp [World.setCell, Array.getElem?_modify, hp]
theorem Full.below {B : Nat} (h : Full w g t cs) (hb : Below B w w') (hg : g < B) : Full w' g t cs := h.of_eq (hb.block g hg)
theorem Full.grown {row : Option Nat} (h : Full w g t cs) (hb : w.grownBy w' row) (hg : some g ≠ row) : Full w' g t cs := h.of_eq (hb.block g h.lt hg)
/-- A row of elements of another type lies elsewhere. -/
theorem own_far {base : Nat} {e : TypeId} {size n : Nat} {v : Value} {xs : List Value} (h : w.ownsRow base e size v n xs) (hg : Full w g t cs) (hne : e ≠ t) : some g ≠ v.ownBlock := by
  rcases h.2 with ⟨rfl, _⟩ | ⟨g', cap, cur, rfl, _, hh, _⟩
  · simp [Value.ownBlock]
  · intro he
    have he' : g = g' := by simpa [Value.ownBlock] using he
    subst he'
    unfold Full at hg
    rw [hg] at hh
    injection hh with hh
    injection hh with _ h2
    exact hne h2.symm

theorem only_refl (w : World) (row : Option Nat) : w.grownBy w row := World.grownBy.refl w row
theorem only_drewN {row : Option Nat} (h : a.grownBy w row) (n : Nat) : a.grownBy (w.drewN n) row := ⟨h.os, h.tape, h.output, h.size, h.block⟩
theorem only_put (h : a.grownBy w (some g)) (i : Nat) (u : Value) : a.grownBy (w.setCell ⟨g, i, none⟩ u) (some g) :=
  ⟨h.os, h.tape, h.output, by simpa [World.setCell] using h.size, fun k hk hne => by
    rw [← h.block k hk hne]
    have : ¬ g = k := fun e => hne (by rw [e])
    simp [World.setCell, Array.getElem?_modify, this]⟩
theorem only_below (h : a.grownBy w (some g)) {B : Nat} (hb : Below B w w') (hB : a.heap.size ≤ B) : a.grownBy w' (some g) :=
  ⟨hb.os.trans h.os, hb.tape.trans h.tape, hb.output.trans h.output, Nat.le_trans h.size hb.size, fun k hk hne => (hb.block k (by omega)).trans (h.block k hk hne)⟩
theorem only_grown (h : a.grownBy w (some g)) {row : Option Nat} (hb : w.grownBy w' row) (hr : ∀ k, row = some k → a.heap.size ≤ k) : a.grownBy w' (some g) :=
  ⟨hb.os.trans h.os, hb.tape.trans h.tape, hb.output.trans h.output, Nat.le_trans h.size hb.size, fun k hk hne => (hb.block k (Nat.lt_of_lt_of_le hk h.size) (fun e => by have := hr k e.symm; omega)).trans (h.block k hk hne)⟩
theorem below_only {B : Nat} {w0 : World} (hb : Below B w0 a) (h : a.grownBy w (some g)) (hg : B ≤ g) (hB : B ≤ a.heap.size) : Below B w0 w :=
  ⟨h.os.trans hb.os, h.tape.trans hb.tape, h.output.trans hb.output, Nat.le_trans hb.size h.size, fun k hk => (h.block k (by omega) (fun e => by injection e with e; omega)).trans (hb.block k hk)⟩
end
/-- A callee that leaves the world alone, met in a quiet region. -/
theorem qs {P : Program} {f : FuncId} {args : Array Value} {w : World} {n : Nat} {v : Value}
    (h : Calls P f args (w.drewN n) fun e w' => e = .returned v ∧ w.drewN n = w') : Calls P f args (w.drewN n) fun e w'' => e = .returned v ∧ ∃ m, w'' = w.drewN m :=
  h.mono fun _ _ ⟨he, hm⟩ => ⟨he, n, hm.symm⟩
/-- The same, behind an elder quiet region. -/
theorem qs2 {P : Program} {f : FuncId} {args : Array Value} {w : World} {a n : Nat} {v : Value}
    (h : Calls P f args (w.drewN (a + n)) fun e w' => e = .returned v ∧ w.drewN (a + n) = w') : Calls P f args (w.drewN (a + n)) fun e w'' => e = .returned v ∧ ∃ m, w'' = w.drewN (a + m) :=
  h.mono fun _ _ ⟨he, hm⟩ => ⟨he, n, hm.symm⟩
end Go.Proofs.YtjfgcbikdibjeaaGreatDoor
