/- The reader of a quoted scalar, in memory. -/
import Derived.Test.YtjfgcbikdibjeaaGreatDoorPAllB
import Derived.Test.YtjfgcbikdibjeaaGreatDoorFrame
import Derived.Lib.AppendStr
namespace Go.Proofs.YtjfgcbikdibjeaaGreatDoor
open Go.RowKit U Go.Proofs

def rowCells (x : QR) (v : Value) : List Value := [v, .int .i64 x.2.1, .bool x.2.2]
def rowsCells (es : List (QR × Value)) : List Value := es.flatMap fun x => rowCells x.1 x.2
theorem rowsCells_len (es : List (QR × Value)) : (rowsCells es).length = es.length * 3 := by
  induction es with
  | nil => rfl
  | cons x t ih =>
    have : rowsCells (x :: t) = rowCells x.1 x.2 ++ rowsCells t := by simp [rowsCells]
    rw [this, List.length_append, ih, List.length_cons]
    show 3 + _ = _
    omega
theorem rowsCells_snoc (es : List (QR × Value)) (x : QR) (v : Value) : rowsCells (es ++ [(x, v)]) = rowsCells es ++ rowCells x v := by simp [rowsCells]
def totQ (es : List (QR × Value)) : Nat := (es.map fun x => x.1.1.length).foldr (· + ·) 0
theorem totQ_snoc (es : List (QR × Value)) (x : QR) (v : Value) : totQ (es ++ [(x, v)]) = totQ es + x.1.length := by
  induction es with
  | nil => simp [totQ]
  | cons y t ih =>
    have h1 : totQ (y :: t ++ [(x, v)]) = y.1.1.length + totQ (t ++ [(x, v)]) := by simp [totQ]
    have h2 : totQ (y :: t) = y.1.1.length + totQ t := by simp [totQ]
    rw [h1, h2, ih]
    omega
section
variable {w w' : World} {base base' : Nat} {e e' : TypeId} {s s' n n' : Nat} {v v' : Value} {xs xs' : List Value}
/-- Rows of elements of two types lie apart. -/
theorem own_apart (h : w.ownsRow base e s v n xs) (h' : w.ownsRow base' e' s' v' n' xs') (hne : e ≠ e') : v.ownBlock = none ∨ v.ownBlock ≠ v'.ownBlock := by
  rcases h.2 with ⟨rfl, _⟩ | ⟨k, cap, cur, rfl, _, hk, _⟩
  · exact .inl rfl
  · right
    rcases h'.2 with ⟨rfl, _⟩ | ⟨k', cap', cur', rfl, _, hk', _⟩
    · simp [Value.ownBlock]
    · intro he
      have he : k = k' := by simpa [Value.ownBlock] using he
      subst he
      rw [hk] at hk'
      injection hk' with hk'
      injection hk' with _ h2
      exact hne h2
theorem own_below (h : w.ownsRow base e s v n xs) (hb : Below w.heap.size w w') : w'.ownsRow base e s v n xs :=
  h.kept (row := none) ⟨hb.os, hb.tape, hb.output, hb.size, fun k hk _ => hb.block k hk⟩ (by cases hv : v.ownBlock <;> simp)
/-- The first so many of a row. -/
theorem own_take {g cap : Nat} (h : w.ownsRow base e s (.slice (some ⟨g, 0, none⟩) n cap) n xs) {k : Nat} (hk : k ≤ n) : w.ownsRow base e s (.slice (some ⟨g, 0, none⟩) k cap) k (xs.take (k * s)) := by
  have hm : k * s ≤ n * s := Nat.mul_le_mul_right _ hk
  refine ⟨by rw [List.length_take, h.1]; omega, ?_⟩
  rcases h.2 with ⟨h', _⟩ | ⟨g', cap', cur, h', h1, h2, h3, h4, h5, h6⟩
  · simp at h'
  · injection h' with h7 _ h8
    subst h8
    refine .inr ⟨g, cap, cur, rfl, ?_, ?_, by omega, h4, h5, ?_⟩
    · injection h7 with h7; injection h7 with h7; rw [h7]; exact h1
    · injection h7 with h7; injection h7 with h7; rw [h7]; exact h2
    · rw [← h6, List.take_take]
      congr 1
      omega
end
/-- A reader as it stands, but for the text of its row: cs are that row's cells. -/
structure QS0 (W0 w : World) (g : Nat) (l : List UInt8) (p : Nat) (n : Int) (q : Nat) (es : List (QR × Value)) (cs : List Value) (B rb cap : Nat) : Prop where
  only : W0.grownBy w (some g)
  full : Full w g 101 [.string ⟨l.toArray⟩, .int .i64 p, .int .i64 n, .int .u8 q, .slice (some ⟨rb, 0, none⟩) (es.length + 1) cap]
  own : w.ownsRow W0.heap.size 98 3 (.slice (some ⟨rb, 0, none⟩) (es.length + 1) cap) (es.length + 1) (rowsCells es ++ cs)
  b0 : W0.heap.size ≤ B
  b1 : B ≤ w.heap.size
  old : ∀ x ∈ es, w.ownsRow W0.heap.size 5 1 x.2 x.1.1.length (Lib.byteCells x.1.1) ∧ ∀ k, x.2.ownBlock = some k → k < B
section
variable {W0 w w' : World} {g : Nat} {l : List UInt8} {p : Nat} {n : Int} {q : Nat} {es : List (QR × Value)} {cs : List Value} {B rb cap : Nat}
theorem QS0.cells (h : QS0 W0 w g l p n q es cs B rb cap) :
    w.cell? ⟨g, 0, none⟩ = some (.string ⟨l.toArray⟩) ∧ w.cell? ⟨g, 1, none⟩ = some (.int .i64 p) ∧ w.cell? ⟨g, 2, none⟩ = some (.int .i64 n) ∧ w.cell? ⟨g, 3, none⟩ = some (.int .u8 q) ∧
      w.cell? ⟨g, 4, none⟩ = some (.slice (some ⟨rb, 0, none⟩) (es.length + 1) cap) :=
  ⟨h.full.cell 0, h.full.cell 1, h.full.cell 2, h.full.cell 3, h.full.cell 4⟩
theorem QS0.rcell (h : QS0 W0 w g l p n q es cs B rb cap) (i : Nat) (hi : i < 3) : w.cell? ⟨rb, es.length * 3 + i, none⟩ = cs[i]? := by
  rw [h.own.cellAt _ (by omega), List.getElem?_append_right (by rw [rowsCells_len]; omega), rowsCells_len]
  congr 1
  omega
theorem QS0.rfree (h : QS0 W0 w g l p n q es cs B rb cap) (i : Nat) : w.frozen? ⟨rb, i, none⟩ = false := h.own.frozenAt i
theorem QS0.far (h : QS0 W0 w g l p n q es cs B rb cap) : rb ≠ g := fun e => own_far h.own h.full (by decide) (by rw [e]; rfl)
theorem QS0.below (h : QS0 W0 w g l p n q es cs B rb cap) (hb : Below w.heap.size w w') : QS0 W0 w' g l p n q es cs B rb cap :=
  ⟨only_below h.only hb h.only.size, h.full.below hb h.full.lt, own_below h.own hb, h.b0, Nat.le_trans h.b1 hb.size, fun x hx => ⟨own_below (h.old x hx).1 hb, (h.old x hx).2⟩⟩
theorem QS0.drewN (h : QS0 W0 w g l p n q es cs B rb cap) (k : Nat) : QS0 W0 (w.drewN k) g l p n q es cs B rb cap := h.below (below_drewN (Below.refl _ _) k)
theorem QS0.alloc (h : QS0 W0 w g l p n q es cs B rb cap) (o : Obj) : QS0 W0 (w.alloc o) g l p n q es cs B rb cap := h.below ((Below.refl _ _).alloc (Nat.le_refl _) o)
/-- Behind an append to a row of bytes that is none of the elder ones. -/
theorem QS0.grown {v : Value} {m : Nat} {xs : List Value} (h : QS0 W0 w g l p n q es cs B rb cap) (ht : w.ownsRow B 5 1 v m xs) (hg : w.grownBy w' v.ownBlock) : QS0 W0 w' g l p n q es cs B rb cap :=
  ⟨only_grown h.only hg (fun k hk => Nat.le_trans h.b0 (ht.lt k hk).1), h.full.grown hg (own_far ht h.full (by decide)), h.own.kept hg (own_apart h.own ht (by decide)), h.b0, Nat.le_trans h.b1 hg.size,
    fun x hx => ⟨(h.old x hx).1.kept hg (by
      cases hx' : x.2.ownBlock with
      | none => exact .inl rfl
      | some k =>
        right
        intro he
        have h1 := (h.old x hx).2 k hx'
        have h2 := (ht.lt k he.symm).1
        omega), (h.old x hx).2⟩⟩
theorem QS0.putAt (h : QS0 W0 w g l p n q es cs B rb cap) (p' : Nat) : QS0 W0 (w.setCell ⟨g, 1, none⟩ (.int .i64 p')) g l p' n q es cs B rb cap :=
  have hg := only_put (only_refl w (some g)) 1 (.int .i64 (p' : Int))
  ⟨only_put h.only 1 _, h.full.put 1 _, h.own.kept hg (.inr (fun e' => own_far h.own h.full (by decide) e'.symm)), h.b0, Nat.le_trans h.b1 hg.size,
    fun x hx => ⟨(h.old x hx).1.kept hg (.inr (fun e' => own_far (h.old x hx).1 h.full (by decide) e'.symm)), (h.old x hx).2⟩⟩
theorem own_far_put {v : Value} {m : Nat} {xs : List Value} (h : QS0 W0 w g l p n q es cs B rb cap) (ht : w.ownsRow B 5 1 v m xs) (i : Nat) (u : Value) : (w.setCell ⟨g, i, none⟩ u).ownsRow B 5 1 v m xs :=
  ht.kept (only_put (only_refl w (some g)) i u) (.inr (fun e' => own_far ht h.full (by decide) e'.symm))
theorem QS0.putRow (h : QS0 W0 w g l p n q es cs B rb cap) (i : Nat) (u : Value) : QS0 W0 (w.setCell ⟨rb, es.length * 3 + i, none⟩ u) g l p n q es (cs.set i u) B rb cap := by
  obtain ⟨h1, h2⟩ := h.own.stored (es.length * 3 + i) u
  refine ⟨only_grown h.only h2 (fun k hk => by injection hk with hk; subst hk; exact (h.own.lt rb rfl).1), h.full.put_far h.far _, ?_, h.b0, Nat.le_trans h.b1 h2.size, fun x hx => ⟨(h.old x hx).1.kept h2 ?_, (h.old x hx).2⟩⟩
  · have e : (rowsCells es ++ cs).set (es.length * 3 + i) u = rowsCells es ++ cs.set i u := by
      rw [List.set_append_right _ _ (by rw [rowsCells_len]; omega), rowsCells_len]
      congr 2
      omega
    rw [e] at h1
    exact h1
  · exact own_apart (h.old x hx).1 h.own (by decide)
theorem own_row_put {v : Value} {m : Nat} {xs : List Value} (h : QS0 W0 w g l p n q es cs B rb cap) (ht : w.ownsRow B 5 1 v m xs) (i : Nat) (u : Value) : (w.setCell ⟨rb, i, none⟩ u).ownsRow B 5 1 v m xs :=
  ht.kept (h.own.stored i u).2 (own_apart ht h.own (by decide))
end
/-- A reader as it stands. -/
structure QS (W0 w : World) (g : Nat) (l : List UInt8) (p : Nat) (n : Int) (q : Nat) (es : List (QR × Value)) (c : QR) (v : Value) (B rb cap : Nat) : Prop where
  st : QS0 W0 w g l p n q es (rowCells c v) B rb cap
  text : w.ownsRow B 5 1 v c.1.length (Lib.byteCells c.1)
  fix : c.2.1 ≤ c.1.length
  size : totQ es + c.1.length ≤ 2 * p
  count : es.length ≤ p
section
variable {W0 w w' : World} {g : Nat} {l : List UInt8} {p : Nat} {n : Int} {q : Nat} {es : List (QR × Value)} {c : QR} {v : Value} {B rb cap : Nat}
theorem QS.below (h : QS W0 w g l p n q es c v B rb cap) (hb : Below w.heap.size w w') : QS W0 w' g l p n q es c v B rb cap := ⟨h.st.below hb, own_below h.text hb, h.fix, h.size, h.count⟩
theorem QS.drewN (h : QS W0 w g l p n q es c v B rb cap) (k : Nat) : QS W0 (w.drewN k) g l p n q es c v B rb cap := h.below (below_drewN (Below.refl _ _) k)
theorem QS.rcells (h : QS W0 w g l p n q es c v B rb cap) : w.cell? ⟨rb, es.length * 3, none⟩ = some v ∧ w.cell? ⟨rb, es.length * 3 + 1, none⟩ = some (.int .i64 c.2.1) ∧ w.cell? ⟨rb, es.length * 3 + 2, none⟩ = some (.bool c.2.2) :=
  ⟨h.st.rcell 0 (by omega), h.st.rcell 1 (by omega), h.st.rcell 2 (by omega)⟩
theorem QS.putAt (h : QS W0 w g l p n q es c v B rb cap) (p' : Nat) (hp : p ≤ p') : QS W0 (w.setCell ⟨g, 1, none⟩ (.int .i64 p')) g l p' n q es c v B rb cap :=
  ⟨h.st.putAt p', own_far_put h.st h.text 1 _, h.fix, by have := h.size; omega, by have := h.count; omega⟩
theorem QS.tie (h : QS W0 w g l p n q es c v B rb cap) : QS W0 (w.setCell ⟨rb, es.length * 3 + 2, none⟩ (.bool true)) g l p n q es (c.1, c.2.1, true) v B rb cap :=
  ⟨h.st.putRow 2 _, own_row_put h.st h.text _ _, h.fix, h.size, h.count⟩
theorem QS.fixed (h : QS W0 w g l p n q es c v B rb cap) (k : Nat) (hk : k ≤ c.1.length) : QS W0 (w.setCell ⟨rb, es.length * 3 + 1, none⟩ (.int .i64 k)) g l p n q es (c.1, k, c.2.2) v B rb cap :=
  ⟨h.st.putRow 1 _, own_row_put h.st h.text _ _, hk, h.size, h.count⟩
/-- A text of its own put into the row. -/
theorem QS0.text {cs2 : List Value} {v0 v' : Value} (h : QS0 W0 w g l p n q es (v0 :: cs2) B rb cap) (m : List UInt8) (k : Nat) (b : Bool) (hcs : cs2 = [.int .i64 k, .bool b]) (ht : w.ownsRow B 5 1 v' m.length (Lib.byteCells m)) (hk : k ≤ m.length)
    (hs : totQ es + m.length ≤ 2 * p) (hc : es.length ≤ p) : QS W0 (w.setCell ⟨rb, es.length * 3, none⟩ v') g l p n q es (m, k, b) v' B rb cap := by
  subst hcs
  exact ⟨h.putRow 0 v', own_row_put h ht _ _, hk, hs, hc⟩
/-- On to the next row. -/
theorem QS.next {w5 : World} {rb' cap' : Nat} {o : Obj} (h : QS W0 w g l p n q es c v B rb cap) (hown : w5.ownsRow W0.heap.size 98 3 (.slice (some ⟨rb', 0, none⟩) (es.length + 1 + 1) cap') (es.length + 1 + 1) (rowsCells es ++ rowCells c v ++ rowCells newQ (.slice none 0 0)))
    (hg : (w.alloc o).grownBy w5 (some rb)) (hp : es.length + 1 ≤ p) :
    QS W0 (w5.setCell ⟨g, 4, none⟩ (.slice (some ⟨rb', 0, none⟩) (es.length + 1 + 1) cap')) g l p n q (es ++ [(c, v)]) newQ (.slice none 0 0) w5.heap.size rb' cap' := by
  have ha := h.below ((Below.refl w.heap.size w).alloc (Nat.le_refl _) o)
  have hf : Full w5 g 101 [.string ⟨l.toArray⟩, .int .i64 p, .int .i64 n, .int .u8 q, .slice (some ⟨rb, 0, none⟩) (es.length + 1) cap] := ha.st.full.grown hg (fun e => ha.st.far (by injection e with e; exact e.symm))
  have hon : W0.grownBy w5 (some g) := only_grown ha.st.only hg (fun k hk => by injection hk with hk; subst hk; exact (ha.st.own.lt rb rfl).1)
  have hput := only_put (only_refl w5 (some g)) 4 (Value.slice (some ⟨rb', 0, none⟩) (es.length + 1 + 1) cap')
  have hold : ∀ x ∈ es ++ [(c, v)], w5.ownsRow W0.heap.size 5 1 x.2 x.1.1.length (Lib.byteCells x.1.1) := by
    intro x hx
    have key : ∀ {B' : Nat} {v' : Value} {m : Nat} {ys : List Value}, (w.alloc o).ownsRow B' 5 1 v' m ys → w5.ownsRow B' 5 1 v' m ys := fun ht => ht.kept hg (own_apart ht ha.st.own (by decide))
    rcases List.mem_append.1 hx with hx | hx
    · exact key (ha.st.old x hx).1
    · obtain rfl := List.mem_singleton.1 hx
      exact key (own_mono ha.text ha.st.b0)
  have hel : (es ++ [(c, v)]).length = es.length + 1 := by simp
  refine ⟨⟨only_put hon 4 _, ?_, ?_, hon.size, by simp, fun x hx => ⟨(hold x hx).kept hput (.inr (fun e' => own_far (hold x hx) hf (by decide) e'.symm)), fun k hk => ((hold x hx).lt k hk).2⟩⟩, ?_, Nat.le_refl _, ?_, ?_⟩
  · rw [hel]; exact hf.put 4 _
  · rw [hel, rowsCells_snoc]; exact hown.kept hput (.inr (fun e' => own_far hown hf (by decide) e'.symm))
  · exact own_nil _ _ _
  · rw [totQ_snoc]; have := h.size; show _ + 0 ≤ _; omega
  · rw [hel]; exact hp
end
theorem Tryz.infoRow : (Tryz.prog.info? 98).map (fun i => (i.zero, i.size, i.bytes)) = some (some (.agg #[.slice none 0 0, .int .i64 0, .bool false]), 3, 40) := by kernel_rfl
theorem Tryz.infoByte : (Tryz.prog.info? 5).map (fun i => (i.zero, i.size, i.bytes)) = some (some (.int .u8 0), 1, 1) := by kernel_rfl
end Go.Proofs.YtjfgcbikdibjeaaGreatDoor
