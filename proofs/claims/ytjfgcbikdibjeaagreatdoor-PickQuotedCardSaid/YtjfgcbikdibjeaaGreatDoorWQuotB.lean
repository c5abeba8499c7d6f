/- The walks of package quot: on to the next row. -/
import Derived.Test.YtjfgcbikdibjeaaGreatDoorWQuotA
import Derived.Test.YtjfgcbikdibjeaaGreatDoorWRows2
import Derived.Test.YtjfgcbikdibjeaaGreatDoorWHead
import Derived.Test.YtjfgcbikdibjeaaGreatDoorPeel
namespace Go.Proofs.YtjfgcbikdibjeaaGreatDoor
open Go.RowKit U Go.Proofs

theorem byteCells_drop (l : List UInt8) (k : Nat) : (Lib.byteCells l).drop k = Lib.byteCells (l.drop k) := by simp [Lib.byteCells]
theorem byteCells_take (l : List UInt8) (k : Nat) : (Lib.byteCells l).take k = Lib.byteCells (l.take k) := by simp [Lib.byteCells]
theorem byteCells_append (a b : List UInt8) : Lib.byteCells (a ++ b) = Lib.byteCells a ++ Lib.byteCells b := by simp [Lib.byteCells]
theorem cutW_le (l : List UInt8) : (cutW l).length ≤ l.length := by
  unfold cutW
  rw [List.length_reverse]
  refine Nat.le_trans (List.dropWhile_suffix _).length_le ?_
  rw [List.length_reverse]
  exact Nat.le_refl _
theorem own_tail {w : World} {base g n cap : Nat} {e : TypeId} {xs : List Value} (h : w.ownsRow base e 1 (.slice (some ⟨g, 0, none⟩) n cap) n xs) {k : Nat} (hk : k < n) : Sl w (.slice (some ⟨g, k, none⟩) (n - k) (cap - k)) (xs.drop k) := by
  have hl : xs.length = n := by have := h.1; omega
  refine Or.inr ⟨g, k, cap - k, fun e => ?_, by rw [List.length_drop, hl], (h.lt g rfl).2, fun i x hx => ?_⟩
  · have := congrArg List.length e
    rw [List.length_drop, hl] at this
    simp at this
    omega
  · rw [List.getElem?_drop] at hx
    rw [h.cellAt (k + i) (by
      rcases Nat.lt_or_ge (k + i) xs.length with h1 | h1
      · omega
      · rw [List.getElem?_eq_none h1] at hx; cases hx)]
    exact hx
theorem oper_append_str {P : Program} {w : World} {o : Oper} {a : Act} {K : Act → World → Prop} {Q : Exit → Act → World → Prop} {ops : Array Oper} {E : Prop} (hgd : o.guard = none) (sl x : Operand) (t u : TypeId)
    (ho : o.op = .call { callee := .builtin .append, args := #[sl, x], argTypes := #[t, u] })
    (base : Nat) (e : TypeId) (i : TypeInfo) (ht : P.underlying t = some (.slice e)) (hu : P.underlying u = some .string) (hi : P.info? e = some i) (hz : i.zero = some (.int .u8 0))
    (hsize : i.size = 1) (hby : i.bytes = 1)
    (v : Value) (n : Nat) (xs : List Value) (hs : a.eval sl = v) (hown : w.ownsRow base e 1 v n xs) (s : ByteArray) (hx : a.eval x = .string s)
    (h63 : n + s.size ≤ maxLen) (hbytes : n + s.size ≤ 140737488355328) (hbase : base ≤ w.heap.size)
    (h : ∀ v' w', w'.ownsRow base e 1 v' (n + s.size) (xs ++ Lib.strCells s) → w.grownBy w' v.ownBlock → K (a.put o.dst v') w') : if Region.wanted o (yielded ops a.tmps) = true then Oper.wp P o a w K Q else E := by
  have hw : Region.wanted o (yielded ops a.tmps) = true := by simp [Region.wanted, hgd]
  rw [if_pos hw]
  obtain ⟨v', w', hr, h2, h3, _⟩ := Lib.run_append_own_string (P := P) w base t u o.type e i ht hu hi hz hsize hby v n xs hown s h63 hbytes hbase
  unfold Oper.wp execOp
  simp only [ho, resolve, invoke, builtin, Sem.run_bind, Sem.run_pure, Result.andThen_ok, List.map_toArray, List.map_cons, List.map_nil, hs, hx, hr]
  exact h v' w' h2 h3
theorem wpList_pushRow {P : Program} {ops : Array Oper} {rest : List Oper} {o : Oper} {a : Act} {Q : Exit → Act → World → Prop} {wr : World} (hgd : o.guard = none) (s x : Operand) (t : TypeId)
    (ho : o.op = .call { callee := .builtin .append, args := #[s, x], argTypes := #[t, t] })
    (B : Nat) (e : TypeId) (i : TypeInfo) (z : Value) (size bytes : Nat) (ht : P.underlying t = some (.slice e)) (hi : P.info? e = some i) (hz : i.zero = some z)
    (hsize : i.size = size) (hby : i.bytes = bytes) (hzs : z.cells.size = size) (hsz : 0 < size)
    (v : Value) (n : Nat) (xs : List Value) (cs : Array Value) (hs : a.eval s = v) (hown : wr.ownsRow B e size v n xs) (hx : a.eval x = .slice (some ⟨wr.heap.size, 0, none⟩) 1 1) (hcs : cs.size = size) (hone : ∀ u ∈ cs.toList, u.oneCell' = true)
    (h63 : n + 1 ≤ maxLen) (hbytes : (n + 1) * bytes ≤ 140737488355328) (hB : B ≤ wr.heap.size)
    (h : ∀ rb cap w', w'.ownsRow B e size (.slice (some ⟨rb, 0, none⟩) (n + 1) cap) (n + 1) (xs ++ cs.toList) → (wr.alloc (.cells cs e)).grownBy w' v.ownBlock → wpList P ops Q rest (a.put o.dst (.slice (some ⟨rb, 0, none⟩) (n + 1) cap)) w') : wpList P ops Q (o :: rest) a (wr.alloc (.cells cs e)) := by
  refine wpList_append_own _ hgd s x t ho B e i z size bytes ht hi hz hsize hby hzs hsz v n xs hs (hown.alloc _) ⟨wr.heap.size, 0, none⟩ 1 1 cs.toList hx (by simp [hcs]) (World.news_of_block (heap_alloc_new wr _)) hone h63 hbytes (by simp; omega) ?_
  intro v' w' h2 h3 _
  obtain ⟨rb, cap, rfl, _, _⟩ := h2.form (by omega)
  exact h rb cap w' h2 h3
theorem QS.nextFull {W0 w : World} {g : Nat} {l : List UInt8} {p : Nat} {n : Int} {q : Nat} {es : List (QR × Value)} {c : QR} {v : Value} {B rb cap : Nat} {w5 : World} {o : Obj} (h : QS W0 w g l p n q es c v B rb cap) (hg : (w.alloc o).grownBy w5 (some rb)) :
    Full w5 g 101 [.string ⟨l.toArray⟩, .int .i64 p, .int .i64 n, .int .u8 q, .slice (some ⟨rb, 0, none⟩) (es.length + 1) cap] :=
  (h.below ((Below.refl w.heap.size w).alloc (Nat.le_refl _) o)).st.full.grown hg (fun e => h.st.far (by injection e with e; exact e.symm))
/-- What the next row brings. -/
def okFeed (l : List UInt8) (n : Int) (p : Nat) : Bool := !decide (kindM l (p + 1) = 3 ∨ kindM l (p + 1) = 4) && (decide (kindM l (p + 1) = 1) || decide (n < (inM l (p + 1) : Int)))
def atFeed (l : List UInt8) (p : Nat) : Nat := if kindM l (p + 1) = 3 ∨ kindM l (p + 1) = 4 then p + 1 else afterQ l p
set_option maxRecDepth 100000 in
set_option maxHeartbeats 8000000 in
theorem feed_c {W0 w : World} {g : Nat} {l : List UInt8} {p : Nat} {n : Int} {q : Nat} {es : List (QR × Value)} {c : QR} {v : Value} {B rb cap : Nat} (h : QS W0 w g l p n q es c v B rb cap) (hs : l.length ≤ 1000000) (hp : p < l.length)
    (_hn0 : -9223372036854775808 ≤ n) (_hn1 : n ≤ 9223372036854775807) :
    Calls Tryz.prog 121 #[.pointer (some ⟨g, 0, none⟩)] w fun e w' => e = .returned (.bool (okFeed l n p)) ∧ ∃ v' v2 B' rb' cap', QS W0 w' g l (atFeed l p) n q (es ++ [(trimQ c, v')]) newQ v2 B' rb' cap' := by
  have hct := h.count
  have hsz := h.size
  have hfx := h.fix
  obtain ⟨tx, fx, td⟩ := c
  have H := Lib.hid h
  clear h
  dsimp only at hsz hfx
  obtain ⟨C, hC⟩ : ∃ C, C = trimQ (tx, fx, td) := ⟨_, rfl⟩
  obtain ⟨R, hR⟩ : ∃ R, R = okFeed l n p := ⟨_, rfl⟩
  obtain ⟨A, hA⟩ : ∃ A, A = atFeed l p := ⟨_, rfl⟩
  rw [← hR, ← hA, ← hC]
  unfold okFeed at hR
  unfold atFeed at hA
  have HC := Lib.hid hC
  have HR := Lib.hid hR
  have HA := Lib.hid hA
  clear hR hA hC
  obtain ⟨i0, hi, hz0, hz1, hz2⟩ := info_parts Tryz.infoByte
  go_enter Tryz.func121, Tryz.ntmps121
  go_wp2_with fail
  refine (last_c H.out.st (by omega)).mono ?_
  rintro e w1 ⟨rfl, m1, rfl⟩
  have H1 := Lib.hid (H.out.drewN m1)
  clear H
  obtain ⟨r0, r1, r2⟩ := H1.out.rcells
  go_upto_if 12 with fail
  go_cut [] (fun wx => ∃ v', QS W0 wx g l p n q es C v' B rb cap)
  case first =>
    cases td with
    | true =>
      go_wp2_with fail
      go_meet
      exact ⟨v, by rw [HC.out]; exact H1.out⟩
    | false =>
      have ht := H1.out.text
      dsimp only at ht
      generalize hW1 : w.drewN m1 = W1 at *
      clear hW1
      go_upto_region 3 with fail
      rcases ht.2 with ⟨rfl, h0⟩ | ⟨tb, tc, cur, rfl, _, _, htc, _⟩
      · have htl : tx.length = 0 := h0
        obtain rfl : tx = [] := List.eq_nil_of_length_eq_zero htl
        obtain rfl : fx = 0 := by simpa using hfx
        clear htl
        have hSl : Sl W1.drew (.slice none 0 0) (Lib.byteCells (([] : List UInt8).drop 0)) := Or.inl ⟨rfl, .inl rfl⟩
        have hpre : W1.ownsRow B 5 1 (.slice none 0 0) 0 [] := own_nil _ _ _
        have hcv := run_str_of (P := Tryz.prog) (w := W1.drew) 76 9 5 _ _ hSl Tryz.underlying76 Tryz.underlying5 Tryz.underlying9
        rw [List.drop_nil] at hcv
        refine wp_region_peel (S := (fun w' => w'.cell? ⟨rb, es.length * 3, none⟩ = some (.slice none 0 0) ∧ w'.cell? ⟨rb, es.length * 3 + 1, none⟩ = some (.int .i64 ((0 : Nat) : Int)))) (by kernel_rfl) rfl (by kernel_rfl) ?_
        simp only [List.dropLast_cons_cons, List.dropLast_singleton, List.length_cons, List.length_nil]
        have hHeld : (fun w' => w'.cell? ⟨rb, es.length * 3, none⟩ = some (.slice none 0 0) ∧ w'.cell? ⟨rb, es.length * 3 + 1, none⟩ = some (.int .i64 ((0 : Nat) : Int))) W1.drew := ⟨r0, r1⟩
        refine wpAnyH_take (i := 0) (v := ?_) rfl (by kernel_rfl) (by kernel_rfl) (by kernel_rfl) (fun _ _ _ h => h) (Or.inl ⟨by rfl, ?_⟩) (by assumption) ?_
        rotate_left
        · intro w hSw; (try dsimp only at hSw); go_simp; (try with_reducible rfl)
        try simp only [Act.put, List.setIfInBounds_toArray]
        refine wpAnyH_take (i := 1) (v := ?_) rfl (by kernel_rfl) (by kernel_rfl) (by kernel_rfl) (fun _ _ _ h => h) (Or.inl ⟨by rfl, ?_⟩) (by assumption) ?_
        rotate_left
        · intro w hSw; (try dsimp only at hSw); go_simp; (try with_reducible rfl)
        try simp only [Act.put]
        refine wpAnyH_take (i := 2) (v := ?_) rfl (by kernel_rfl) (by kernel_rfl) (by kernel_rfl) (fun _ _ _ h => h) (Or.inl ⟨by rfl, ?_⟩) (by assumption) ?_
        rotate_left
        · intro w hSw; (try dsimp only at hSw); go_simp; (try with_reducible rfl)
        try simp only [Act.put]
        refine wpAnyH_take (i := 3) (v := ?_) rfl (by kernel_rfl) (by kernel_rfl) (by kernel_rfl) (fun _ _ _ h => h) (Or.inl ⟨by rfl, ?_⟩) (by assumption) ?_
        rotate_left
        · intro w hSw; (try dsimp only at hSw); go_simp; (try with_reducible rfl)
        try simp only [Act.put]
        refine wpAnyH_take (i := 4) (v := ?_) rfl (by kernel_rfl) (by kernel_rfl) (by kernel_rfl) (fun _ _ _ h => h) (Or.inl ⟨by rfl, ?_⟩) (by assumption) ?_
        rotate_left
        · intro w hSw; (try dsimp only at hSw); go_simp; (try with_reducible rfl)
        try simp only [Act.put]
        refine wpAnyH_take (i := 5) (v := ?_) rfl (by kernel_rfl) (by kernel_rfl) (by kernel_rfl) (fun _ _ _ h => h) (Or.inl ⟨by rfl, ?_⟩) (by assumption) ?_
        rotate_left
        · intro w hSw; (try dsimp only at hSw); go_simp; (try with_reducible rfl)
        try simp only [Act.put]
        refine wpAnyH_take (i := 6) (v := ?_) rfl (by kernel_rfl) (by kernel_rfl) (by kernel_rfl) (fun _ _ _ h => h) (Or.inl ⟨by rfl, ?_⟩) (by assumption) ?_
        rotate_left
        · intro w hSw; (try dsimp only at hSw); go_simp; (try with_reducible rfl)
        try simp only [Act.put]
        refine wpAnyH_take (i := 7) (v := ?_) rfl (by kernel_rfl) (by kernel_rfl) (by kernel_rfl) (fun _ _ _ h => h) (Or.inl ⟨by rfl, ?_⟩) (by assumption) ?_
        rotate_left
        · intro w hSw; (try dsimp only at hSw); go_simp; (try with_reducible rfl)
        try simp only [Act.put]
        refine wpAnyH_take (i := 8) (v := ?_) rfl (by kernel_rfl) (by kernel_rfl) (by kernel_rfl) (fun _ _ _ h => h) (Or.inl ⟨by rfl, ?_⟩) (by assumption) ?_
        rotate_left
        · intro w hSw; (try dsimp only at hSw); go_simp; (try with_reducible rfl)
        try simp only [Act.put]
        refine wpAnyH_take (i := 9) (v := ?_) rfl (by kernel_rfl) (by kernel_rfl) (by kernel_rfl) (fun _ _ _ h => h) (Or.inl ⟨by rfl, ?_⟩) (by assumption) ?_
        rotate_left
        · intro w hSw; (try dsimp only at hSw); go_simp; (try with_reducible rfl)
        try simp only [Act.put]
        refine wpAnyH_take (i := 10) (v := ?_) rfl (by kernel_rfl) (by kernel_rfl) (by kernel_rfl) (fun _ _ _ h => h) (Or.inl ⟨by rfl, ?_⟩) (by assumption) ?_
        rotate_left
        · intro w hSw; (try dsimp only at hSw); go_simp; (try with_reducible rfl)
        try simp only [Act.put]
        refine wpAnyH_take (i := 11) (v := ?_) rfl (by kernel_rfl) (by kernel_rfl) (by kernel_rfl) (fun _ _ _ h => h) (Or.inl ⟨by rfl, ?_⟩) (by assumption) ?_
        rotate_left
        · intro w hSw; (try dsimp only at hSw); go_simp; (try with_reducible rfl)
        try simp only [Act.put]
        refine wpAnyH_take (i := 12) (v := ?_) rfl (by kernel_rfl) (by kernel_rfl) (by kernel_rfl) (fun _ _ _ h => h) (Or.inl ⟨by rfl, ?_⟩) (by assumption) ?_
        rotate_left
        · intro w hSw; (try dsimp only at hSw); go_simp; (try with_reducible rfl)
        try simp only [Act.put]
        refine wpAnyH_take (i := 13) (v := ?_) rfl (by kernel_rfl) (by kernel_rfl) (by kernel_rfl) (fun _ _ _ h => h) (Or.inl ⟨by rfl, ?_⟩) (by assumption) ?_
        rotate_left
        · intro w hSw; (try dsimp only at hSw); go_simp; (try with_reducible rfl)
        try simp only [Act.put]
        refine wpAnyH_take (i := 14) (v := ?_) rfl (by kernel_rfl) (by kernel_rfl) (by kernel_rfl) (fun _ _ _ h => h) (Or.inl ⟨by rfl, ?_⟩) (by assumption) ?_
        rotate_left
        · intro w hSw; (try dsimp only at hSw); go_simp; (try with_reducible rfl)
        try simp only [Act.put]
        refine wpAnyH_take (i := 15) (v := ?_) rfl (by kernel_rfl) (by kernel_rfl) (by kernel_rfl) (fun _ _ _ h => h) (Or.inl ⟨by rfl, ?_⟩) (by assumption) ?_
        rotate_left
        · intro w hSw; (try dsimp only at hSw); go_simp; (try with_reducible rfl)
        try simp only [Act.put]
        refine wpAnyH_take (i := 16) (v := ?_) rfl (by kernel_rfl) (by kernel_rfl) (by kernel_rfl) (fun _ _ _ h => h) (Or.inl ⟨by rfl, ?_⟩) (by assumption) ?_
        rotate_left
        · intro w hSw; (try dsimp only at hSw); go_simp; (try with_reducible rfl)
        try simp only [Act.put]
        refine wpAnyH_take (i := 17) (v := ?_) rfl (by kernel_rfl) (by kernel_rfl) (by kernel_rfl) (fun _ _ _ h => h) (Or.inl ⟨by rfl, ?_⟩) (by assumption) ?_
        rotate_left
        · intro w hSw; (try dsimp only at hSw); go_simp; (try with_reducible rfl)
        try simp only [Act.put]
        refine wpAnyH_take (i := 18) (v := ?_) rfl (by kernel_rfl) (by kernel_rfl) (by kernel_rfl) (fun _ _ _ h => h) (Or.inl ⟨by rfl, ?_⟩) (by assumption) ?_
        rotate_left
        · intro w hSw; (try dsimp only at hSw); go_simp; (try with_reducible rfl)
        try simp only [Act.put]
        refine wpAnyH_ready (rs := [19]) (by kernel_rfl) (by simp) ?_
        refine AllReadyH.cons rfl (fun K hK => ?_) AllReadyH.nil
        go_simp
        refine hK.out _ _ (⟨r0, r1⟩) (fun hHeld => ?_)
        clear hK K
        try simp only [Act.put, List.setIfInBounds_toArray, List.set_cons_zero, List.set_cons_succ]
        refine wpAnyH_ready (rs := [20]) (by kernel_rfl) (by simp) ?_
        refine AllReadyH.cons rfl (fun K hK => ?_) AllReadyH.nil
        go_simp
        (go_at_call 152; (with_reducible refine (trimR_c [] _ (by decide)).mono ?_); rintro e w3 ⟨rfl, hb3⟩)
        have H3 := Lib.hid ((H1.out.drewN 1).below hb3)
        have hpre3 := own_below (w := W1.drew) hpre hb3
        refine hK.out _ _ (⟨H3.out.rcells.1, H3.out.rcells.2.1⟩) (fun hHeld => ?_)
        clear hK K
        try simp only [Act.put, List.setIfInBounds_toArray, List.set_cons_zero, List.set_cons_succ]
        have hcl : (cutW ([] : List UInt8)).length ≤ 3000000 := Nat.le_trans (cutW_le _) (by decide)
        refine wpAnyH_ready (rs := [21]) (by kernel_rfl) (by simp) ?_
        refine AllReadyH.cons rfl (fun K hK => ?_) AllReadyH.nil
        refine oper_append_str rfl _ _ _ _ (by rfl) B 5 i0 Tryz.underlying76 Tryz.underlying9 hi hz0 hz1 hz2 (.slice none 0 0) 0 _ (by rfl) hpre3 ⟨(cutW []).toArray⟩ (by rfl) (by unfold maxLen; rw [size_mk]; omega) (by rw [size_mk]; omega) H3.out.st.b1 ?_
        intro v5 w5 hown5 hgrow5
        obtain ⟨a5, c5, rfl⟩ := own_shape hown5
        have H5 := Lib.hid (H3.out.st.grown hpre3 hgrow5)
        have r50 := H5.out.rcell 0 (by omega)
        have f50 := H5.out.rfree (es.length * 3)
        refine hK.out _ _ (⟨H5.out.rcell 0 (by omega), H5.out.rcell 1 (by omega)⟩) (fun hHeld => ?_)
        clear hK K
        try simp only [Act.put, List.setIfInBounds_toArray]
        refine wpAnyH_take (i := 22) (v := ?_) rfl (by kernel_rfl) (by kernel_rfl) (by kernel_rfl) (fun _ _ _ h => h) (Or.inl ⟨by rfl, ?_⟩) (by assumption) ?_
        rotate_left
        · intro w hSw; (try dsimp only at hSw); go_simp; (try with_reducible rfl)
        try simp only [Act.put]
        refine wpAnyH_take (i := 23) (v := ?_) rfl (by kernel_rfl) (by kernel_rfl) (by kernel_rfl) (fun _ _ _ h => h) (Or.inl ⟨by rfl, ?_⟩) (by assumption) ?_
        rotate_left
        · intro w hSw; (try dsimp only at hSw); go_simp; (try with_reducible rfl)
        try simp only [Act.put]
        refine wpAnyH_done (by kernel_rfl) ?_ _
        show Oper.wp _ _ _ _ _ _
        go_simp
        all_goals
          go_wp2_with fail
          go_meet
          rw [HC.out]
          refine ⟨_, H5.out.text ([] ++ (cutW [])) 0 false rfl ?_ ?_ ?_ (by omega)⟩
          · rw [List.length_append, byteCells_append]
            exact hown5
          · rw [List.length_append]; simp
          · rw [List.length_append]; simp [cutW]; omega
      · have hfc : fx ≤ tc := Nat.le_trans hfx htc
        obtain ⟨ad, hif⟩ : ∃ ad, (if tc = fx then (some ⟨tb, 0, none⟩ : Option Addr) else some ⟨tb, fx, none⟩) = some ad := by split <;> exact ⟨_, rfl⟩
        have hSl : Sl W1.drew (.slice (some ad) (tx.length - fx) (tc - fx)) (Lib.byteCells (tx.drop fx)) := by
          rcases Nat.lt_or_ge fx tx.length with h1 | h1
          · rw [if_neg (by omega)] at hif
            injection hif with hif
            subst hif
            rw [← byteCells_drop]
            exact own_tail (w := W1.drew) ht h1
          · rw [List.drop_eq_nil_of_le h1, show tx.length - fx = 0 by omega]
            exact Or.inl ⟨rfl, .inr ⟨_, _, rfl⟩⟩
        have hpre : W1.ownsRow B 5 1 (.slice (some ⟨tb, 0, none⟩) fx tc) fx (Lib.byteCells (tx.take fx)) := by
          have := own_take ht hfx
          rw [Nat.mul_one, byteCells_take] at this
          exact this
        have hcv := run_str_of (P := Tryz.prog) (w := W1.drew) 76 9 5 _ _ hSl Tryz.underlying76 Tryz.underlying5 Tryz.underlying9
        refine wp_region_peel (S := (fun w' => w'.cell? ⟨rb, es.length * 3, none⟩ = some (.slice (some ⟨tb, 0, none⟩) tx.length tc) ∧ w'.cell? ⟨rb, es.length * 3 + 1, none⟩ = some (.int .i64 fx))) (by kernel_rfl) rfl (by kernel_rfl) ?_
        simp only [List.dropLast_cons_cons, List.dropLast_singleton, List.length_cons, List.length_nil]
        have hHeld : (fun w' => w'.cell? ⟨rb, es.length * 3, none⟩ = some (.slice (some ⟨tb, 0, none⟩) tx.length tc) ∧ w'.cell? ⟨rb, es.length * 3 + 1, none⟩ = some (.int .i64 fx)) W1.drew := ⟨r0, r1⟩
        refine wpAnyH_take (i := 0) (v := ?_) rfl (by kernel_rfl) (by kernel_rfl) (by kernel_rfl) (fun _ _ _ h => h) (Or.inl ⟨by rfl, ?_⟩) (by assumption) ?_
        rotate_left
        · intro w hSw; (try dsimp only at hSw); go_simp; (try with_reducible rfl)
        try simp only [Act.put, List.setIfInBounds_toArray]
        refine wpAnyH_take (i := 1) (v := ?_) rfl (by kernel_rfl) (by kernel_rfl) (by kernel_rfl) (fun _ _ _ h => h) (Or.inl ⟨by rfl, ?_⟩) (by assumption) ?_
        rotate_left
        · intro w hSw; (try dsimp only at hSw); go_simp; (try with_reducible rfl)
        try simp only [Act.put]
        refine wpAnyH_take (i := 2) (v := ?_) rfl (by kernel_rfl) (by kernel_rfl) (by kernel_rfl) (fun _ _ _ h => h) (Or.inl ⟨by rfl, ?_⟩) (by assumption) ?_
        rotate_left
        · intro w hSw; (try dsimp only at hSw); go_simp; (try with_reducible rfl)
        try simp only [Act.put]
        refine wpAnyH_take (i := 3) (v := ?_) rfl (by kernel_rfl) (by kernel_rfl) (by kernel_rfl) (fun _ _ _ h => h) (Or.inl ⟨by rfl, ?_⟩) (by assumption) ?_
        rotate_left
        · intro w hSw; (try dsimp only at hSw); go_simp; (try with_reducible rfl)
        try simp only [Act.put]
        refine wpAnyH_take (i := 4) (v := ?_) rfl (by kernel_rfl) (by kernel_rfl) (by kernel_rfl) (fun _ _ _ h => h) (Or.inl ⟨by rfl, ?_⟩) (by assumption) ?_
        rotate_left
        · intro w hSw; (try dsimp only at hSw); go_simp; (try with_reducible rfl)
        try simp only [Act.put]
        refine wpAnyH_take (i := 5) (v := ?_) rfl (by kernel_rfl) (by kernel_rfl) (by kernel_rfl) (fun _ _ _ h => h) (Or.inl ⟨by rfl, ?_⟩) (by assumption) ?_
        rotate_left
        · intro w hSw; (try dsimp only at hSw); go_simp; (try with_reducible rfl)
        try simp only [Act.put]
        refine wpAnyH_take (i := 6) (v := ?_) rfl (by kernel_rfl) (by kernel_rfl) (by kernel_rfl) (fun _ _ _ h => h) (Or.inl ⟨by rfl, ?_⟩) (by assumption) ?_
        rotate_left
        · intro w hSw; (try dsimp only at hSw); go_simp; (try with_reducible rfl)
        try simp only [Act.put]
        refine wpAnyH_take (i := 7) (v := ?_) rfl (by kernel_rfl) (by kernel_rfl) (by kernel_rfl) (fun _ _ _ h => h) (Or.inl ⟨by rfl, ?_⟩) (by assumption) ?_
        rotate_left
        · intro w hSw; (try dsimp only at hSw); go_simp; (try with_reducible rfl)
        try simp only [Act.put]
        refine wpAnyH_take (i := 8) (v := ?_) rfl (by kernel_rfl) (by kernel_rfl) (by kernel_rfl) (fun _ _ _ h => h) (Or.inl ⟨by rfl, ?_⟩) (by assumption) ?_
        rotate_left
        · intro w hSw; (try dsimp only at hSw); go_simp; (try with_reducible rfl)
        try simp only [Act.put]
        refine wpAnyH_take (i := 9) (v := ?_) rfl (by kernel_rfl) (by kernel_rfl) (by kernel_rfl) (fun _ _ _ h => h) (Or.inl ⟨by rfl, ?_⟩) (by assumption) ?_
        rotate_left
        · intro w hSw; (try dsimp only at hSw); go_simp; (try with_reducible rfl)
        try simp only [Act.put]
        refine wpAnyH_take (i := 10) (v := ?_) rfl (by kernel_rfl) (by kernel_rfl) (by kernel_rfl) (fun _ _ _ h => h) (Or.inl ⟨by rfl, ?_⟩) (by assumption) ?_
        rotate_left
        · intro w hSw; (try dsimp only at hSw); go_simp; (try with_reducible rfl)
        try simp only [Act.put]
        refine wpAnyH_take (i := 11) (v := ?_) rfl (by kernel_rfl) (by kernel_rfl) (by kernel_rfl) (fun _ _ _ h => h) (Or.inl ⟨by rfl, ?_⟩) (by assumption) ?_
        rotate_left
        · intro w hSw; (try dsimp only at hSw); go_simp; (try with_reducible rfl)
        try simp only [Act.put]
        refine wpAnyH_take (i := 12) (v := ?_) rfl (by kernel_rfl) (by kernel_rfl) (by kernel_rfl) (fun _ _ _ h => h) (Or.inl ⟨by rfl, ?_⟩) (by assumption) ?_
        rotate_left
        · intro w hSw; (try dsimp only at hSw); go_simp; (try with_reducible rfl)
        try simp only [Act.put]
        refine wpAnyH_take (i := 13) (v := ?_) rfl (by kernel_rfl) (by kernel_rfl) (by kernel_rfl) (fun _ _ _ h => h) (Or.inl ⟨by rfl, ?_⟩) (by assumption) ?_
        rotate_left
        · intro w hSw; (try dsimp only at hSw); go_simp; (try with_reducible rfl)
        try simp only [Act.put]
        refine wpAnyH_take (i := 14) (v := ?_) rfl (by kernel_rfl) (by kernel_rfl) (by kernel_rfl) (fun _ _ _ h => h) (Or.inl ⟨by rfl, ?_⟩) (by assumption) ?_
        rotate_left
        · intro w hSw; (try dsimp only at hSw); go_simp; (try with_reducible rfl)
        try simp only [Act.put]
        refine wpAnyH_take (i := 15) (v := ?_) rfl (by kernel_rfl) (by kernel_rfl) (by kernel_rfl) (fun _ _ _ h => h) (Or.inl ⟨by rfl, ?_⟩) (by assumption) ?_
        rotate_left
        · intro w hSw; (try dsimp only at hSw); go_simp; (try with_reducible rfl)
        try simp only [Act.put]
        refine wpAnyH_take (i := 16) (v := ?_) rfl (by kernel_rfl) (by kernel_rfl) (by kernel_rfl) (fun _ _ _ h => h) (Or.inl ⟨by rfl, ?_⟩) (by assumption) ?_
        rotate_left
        · intro w hSw; (try dsimp only at hSw); go_simp; (try with_reducible rfl)
        try simp only [Act.put]
        refine wpAnyH_take (i := 17) (v := ?_) rfl (by kernel_rfl) (by kernel_rfl) (by kernel_rfl) (fun _ _ _ h => h) (Or.inl ⟨by rfl, ?_⟩) (by assumption) ?_
        rotate_left
        · intro w hSw; (try dsimp only at hSw); go_simp; (try with_reducible rfl)
        try simp only [Act.put]
        refine wpAnyH_take (i := 18) (v := ?_) rfl (by kernel_rfl) (by kernel_rfl) (by kernel_rfl) (fun _ _ _ h => h) (Or.inl ⟨by rfl, ?_⟩) (by assumption) ?_
        rotate_left
        · intro w hSw; (try dsimp only at hSw); go_simp; (try with_reducible rfl)
        try simp only [Act.put]
        refine wpAnyH_ready (rs := [19]) (by kernel_rfl) (by simp) ?_
        refine AllReadyH.cons rfl (fun K hK => ?_) AllReadyH.nil
        go_simp
        refine hK.out _ _ (⟨r0, r1⟩) (fun hHeld => ?_)
        clear hK K
        try simp only [Act.put, List.setIfInBounds_toArray, List.set_cons_zero, List.set_cons_succ]
        refine wpAnyH_ready (rs := [20]) (by kernel_rfl) (by simp) ?_
        refine AllReadyH.cons rfl (fun K hK => ?_) AllReadyH.nil
        go_simp
        (go_at_call 152; (with_reducible refine (trimR_c (tx.drop fx) _ (by rw [List.length_drop]; omega)).mono ?_); rintro e w3 ⟨rfl, hb3⟩)
        have H3 := Lib.hid ((H1.out.drewN 1).below hb3)
        have hpre3 := own_below (w := W1.drew) hpre hb3
        refine hK.out _ _ (⟨H3.out.rcells.1, H3.out.rcells.2.1⟩) (fun hHeld => ?_)
        clear hK K
        try simp only [Act.put, List.setIfInBounds_toArray, List.set_cons_zero, List.set_cons_succ]
        have hcl : (cutW ((tx.drop fx) : List UInt8)).length ≤ 3000000 := Nat.le_trans (cutW_le _) (by rw [List.length_drop]; omega)
        refine wpAnyH_ready (rs := [21]) (by kernel_rfl) (by simp) ?_
        refine AllReadyH.cons rfl (fun K hK => ?_) AllReadyH.nil
        refine oper_append_str rfl _ _ _ _ (by rfl) B 5 i0 Tryz.underlying76 Tryz.underlying9 hi hz0 hz1 hz2 (.slice (some ⟨tb, 0, none⟩) fx tc) fx _ (by rfl) hpre3 ⟨(cutW (tx.drop fx)).toArray⟩ (by rfl) (by unfold maxLen; rw [size_mk]; omega) (by rw [size_mk]; omega) H3.out.st.b1 ?_
        intro v5 w5 hown5 hgrow5
        obtain ⟨a5, c5, rfl⟩ := own_shape hown5
        have H5 := Lib.hid (H3.out.st.grown hpre3 hgrow5)
        have r50 := H5.out.rcell 0 (by omega)
        have f50 := H5.out.rfree (es.length * 3)
        refine hK.out _ _ (⟨H5.out.rcell 0 (by omega), H5.out.rcell 1 (by omega)⟩) (fun hHeld => ?_)
        clear hK K
        try simp only [Act.put, List.setIfInBounds_toArray]
        refine wpAnyH_take (i := 22) (v := ?_) rfl (by kernel_rfl) (by kernel_rfl) (by kernel_rfl) (fun _ _ _ h => h) (Or.inl ⟨by rfl, ?_⟩) (by assumption) ?_
        rotate_left
        · intro w hSw; (try dsimp only at hSw); go_simp; (try with_reducible rfl)
        try simp only [Act.put]
        refine wpAnyH_take (i := 23) (v := ?_) rfl (by kernel_rfl) (by kernel_rfl) (by kernel_rfl) (fun _ _ _ h => h) (Or.inl ⟨by rfl, ?_⟩) (by assumption) ?_
        rotate_left
        · intro w hSw; (try dsimp only at hSw); go_simp; (try with_reducible rfl)
        try simp only [Act.put]
        refine wpAnyH_done (by kernel_rfl) ?_ _
        show Oper.wp _ _ _ _ _ _
        go_simp
        all_goals
          go_wp2_with fail
          go_meet
          rw [HC.out]
          refine ⟨_, H5.out.text (tx.take fx ++ (cutW (tx.drop fx))) fx false rfl ?_ ?_ ?_ (by omega)⟩
          · rw [List.length_append, byteCells_append, List.length_take, Nat.min_eq_left hfx]
            exact hown5
          · rw [List.length_append, List.length_take]; omega
          · rw [List.length_append, List.length_take]; have := cutW_le (tx.drop fx); rw [List.length_drop] at this; omega
  case rest =>
    clear r0 r1 r2 H1 hsz hfx
    obtain ⟨v', H2⟩ := hcut
    have H2 := Lib.hid H2
    go_upto_region 4 with fail
    go_cut [] (fun wx => QS W0 wx g l (p + 1) n q es C v' B rb cap)
    case first =>
      obtain ⟨c0, c1, c2, c3, c4⟩ := H2.out.st.cells
      have f1 := H2.out.st.full.free 1
      have gw : IntKind.i64.wrap ((p : Int) + 1) = (p : Int) + 1 := IntWalk.i64_in _ (by omega)
      go_wp2_with fail
      go_meet
      have := H2.out.putAt (p + 1) (by omega)
      rw [show ((p + 1 : Nat) : Int) = (p : Int) + 1 by omega] at this
      exact this
    case rest =>
      have H3 := Lib.hid hcut
      clear hcut H2
      go_upto_region 5 with fail
      go_cut [] (fun wx => ∃ v2 B' rb' cap', QS W0 wx g l (p + 1) n q (es ++ [(C, v')]) newQ v2 B' rb' cap')
      case first =>
        obtain ⟨c0, c1, c2, c3, c4⟩ := H3.out.st.cells
        obtain ⟨i1, hj, hj0, hj1, hj2⟩ := info_parts Tryz.infoRow
        have hown := H3.out.st.own
        have hn1 : es.length + 1 + 1 ≤ maxLen := by unfold maxLen; omega
        have hn2 : (es.length + 1 + 1) * 40 ≤ 140737488355328 := by omega
        go_wp2_with (at_builtin; go_loud (refine wpList_pushRow rfl _ _ 99 rfl W0.heap.size 98 i1 (.agg #[.slice none 0 0, .int .i64 0, .bool false]) 3 40 Tryz.underlying99 hj hj0 hj1 hj2 rfl (by omega) (.slice (some ⟨rb, 0, none⟩) (es.length + 1) cap) (es.length + 1) _ #[.slice none 0 0, .int .i64 0, .bool false] rfl hown rfl rfl (by simp [Value.oneCell']) hn1 hn2 H3.out.st.only.size ?_); intro rb' cap' w5 hown5 hgrow5; have hF5 := H3.out.nextFull hgrow5; have f54 := hF5.free 4; have c54 := hF5.cell 4)
        go_wp2_with fail
        go_meet
        exact ⟨_, _, _, _, H3.out.next hown5 hgrow5 (by omega)⟩
      case rest =>
        obtain ⟨v2, B', rb', cap', h4⟩ := hcut
        have H4 := Lib.hid h4
        clear h4 H3
        obtain ⟨E, hE⟩ : ∃ E, E = es ++ [(C, v')] := ⟨_, rfl⟩
        rw [← hE] at H4
        have HE := Lib.hid hE
        clear hE
        have hK := fun w => kind_n l (p + 1) w (by omega) (by omega)
        have hI := fun w => in_n l (p + 1) w (by omega) (by omega)
        have hil : inM l (p + 1) ≤ l.length := by have := in_le (l := l) (p := p + 1) (by omega); have := rowTo_le (l := l) (p := p + 1) (by omega); omega
        generalize inM l (p + 1) = inn at *
        generalize kindM l (p + 1) = k at *
        go_upto_region 6 with fail
        go_cut [4] (fun s wx => s = .int .i64 k ∧ QS W0 wx g l (p + 1) n q E newQ v2 B' rb' cap')
        case first =>
          obtain ⟨c0, c1, c2, c3, c4⟩ := H4.out.st.cells
          have hK : ∀ w, Calls Tryz.prog 112 #[.string ⟨l.toArray⟩, .int .i64 ((p : Int) + 1)] w fun e w' => e = .returned (.int .i64 k) ∧ w = w' := hK
          rw [show ((p + 1 : Nat) : Int) = (p : Int) + 1 by omega] at c1
          go_quiet ((go_at_call 112; exact qs (hK _)))
          go_wp2_with fail
          go_meet
          exact ⟨rfl, H4.out.drewN _⟩
        case rest =>
          obtain ⟨rfl, h5⟩ := hcut
          have H5 := Lib.hid h5
          clear h5 H4 hK
          by_cases h3 : k = 3
          · subst h3
            have HA2 : Hid (A = p + 1) := Lib.hid (by rw [HA.out, if_pos (.inl rfl)])
            have HR2 : Hid (R = false) := Lib.hid (by rw [HR.out]; rfl)
            clear HA HR
            go_wp2_with fail
            go_ret
            exact ⟨ret_bool HR2.out.symm, v', v2, B', rb', cap', by rw [HA2.out, ← HE.out]; exact H5.out⟩
          by_cases h4 : k = 4
          · subst h4
            have HA2 : Hid (A = p + 1) := Lib.hid (by rw [HA.out, if_pos (.inr rfl)])
            have HR2 : Hid (R = false) := Lib.hid (by rw [HR.out]; rfl)
            clear HA HR h3
            go_wp2_with fail
            go_ret
            exact ⟨ret_bool HR2.out.symm, v', v2, B', rb', cap', by rw [HA2.out, ← HE.out]; exact H5.out⟩
          have g3 : ((k : Int) == 3) = false := by rw [beq_eq_false_iff_ne]; omega
          have g4 : ((k : Int) == 4) = false := by rw [beq_eq_false_iff_ne]; omega
          have HA2 : Hid (A = afterQ l p) := Lib.hid (by rw [HA.out, if_neg (by omega)])
          have HR2 : Hid (R = (decide (k = 1) || decide (n < (inn : Int)))) := Lib.hid (by rw [HR.out, decide_eq_false (by omega)]; rfl)
          clear HA HR h3 h4
          go_upto_region 9 with fail
          go_cut [5] (fun s wx => s = .int .i64 inn ∧ QS W0 wx g l (p + 1) n q E newQ v2 B' rb' cap')
          case first =>
            obtain ⟨c0, c1, c2, c3, c4⟩ := H5.out.st.cells
            have hI : ∀ w, Calls Tryz.prog 113 #[.string ⟨l.toArray⟩, .int .i64 ((p : Int) + 1)] w fun e w' => e = .returned (.int .i64 inn) ∧ w = w' := hI
            rw [show ((p + 1 : Nat) : Int) = (p : Int) + 1 by omega] at c1
            go_quiet ((go_at_call 113; exact qs (hI _)))
            go_wp2_with fail
            go_meet
            exact ⟨rfl, H5.out.drewN _⟩
          case rest =>
            obtain ⟨rfl, h6⟩ := hcut
            have H6 := Lib.hid h6
            clear h6 H5 hI
            go_upto_region 10 with fail
            go_cut [] (fun wx => QS W0 wx g l (afterQ l p) n q E newQ v2 B' rb' cap')
            case first =>
              have hQ := after_le hp
              have hQ2 : afterQ l p = p + 1 + run whN l (p + 1) := rfl
              have hW := fun w => whites_c (l.drop (p + 1)) w (by rw [List.length_drop]; omega)
              rw [run_drop, Nat.add_zero] at hW
              generalize run whN l (p + 1) = rn at *
              obtain ⟨w2, hw2⟩ : ∃ w2, w2 = wc := ⟨_, rfl⟩
              rw [← hw2] at H6 ⊢
              clear hw2
              obtain ⟨c0, c1, c2, c3, c4⟩ := H6.out.st.cells
              rw [show ((p + 1 : Nat) : Int) = (p : Int) + 1 by omega] at c1
              have hi1 : ((p : Int) + 1).toNat = p + 1 := by omega
              have hi2 : (0 : Int) ≤ (p : Int) + 1 := by omega
              have hi3 : (p : Int) + 1 ≤ (l.length : Int) := by omega
              have hw9 : IntKind.i64.wrap ((p : Int) + 1 + (rn : Int)) = (p : Int) + 1 + (rn : Int) := IntWalk.i64_in _ (by omega)
              refine wp_region_peel (S := (fun w' => w'.cell? ⟨g, 0, none⟩ = some (.string ⟨l.toArray⟩) ∧ w'.cell? ⟨g, 1, none⟩ = some (.int .i64 ((p : Int) + 1)))) (by kernel_rfl) rfl (by kernel_rfl) ?_
              simp only [List.dropLast_cons_cons, List.dropLast_singleton, List.length_cons, List.length_nil]
              have hHeld : (fun w' => w'.cell? ⟨g, 0, none⟩ = some (.string ⟨l.toArray⟩) ∧ w'.cell? ⟨g, 1, none⟩ = some (.int .i64 ((p : Int) + 1))) w2.drew := ⟨c0, c1⟩
              refine wpAnyH_take (i := 0) (v := ?_) rfl (by kernel_rfl) (by kernel_rfl) (by kernel_rfl) (fun _ _ _ h => h) (Or.inl ⟨by rfl, ?_⟩) (by assumption) ?_
              rotate_left
              · intro w hSw; (try dsimp only at hSw); go_simp; (try with_reducible rfl)
              try simp only [Act.put, List.setIfInBounds_toArray]
              refine wpAnyH_take (i := 1) (v := ?_) rfl (by kernel_rfl) (by kernel_rfl) (by kernel_rfl) (fun _ _ _ h => h) (Or.inl ⟨by rfl, ?_⟩) (by assumption) ?_
              rotate_left
              · intro w hSw; (try dsimp only at hSw); go_simp; (try with_reducible rfl)
              try simp only [Act.put]
              refine wpAnyH_take (i := 2) (v := ?_) rfl (by kernel_rfl) (by kernel_rfl) (by kernel_rfl) (fun _ _ _ h => h) (Or.inl ⟨by rfl, ?_⟩) (by assumption) ?_
              rotate_left
              · intro w hSw; (try dsimp only at hSw); go_simp; (try with_reducible rfl)
              try simp only [Act.put]
              refine wpAnyH_take (i := 3) (v := ?_) rfl (by kernel_rfl) (by kernel_rfl) (by kernel_rfl) (fun _ _ _ h => h) (Or.inl ⟨by rfl, ?_⟩) (by assumption) ?_
              rotate_left
              · intro w hSw; (try dsimp only at hSw); go_simp; (try with_reducible rfl)
              try simp only [Act.put]
              refine wpAnyH_take (i := 4) (v := ?_) rfl (by kernel_rfl) (by kernel_rfl) (by kernel_rfl) (fun _ _ _ h => h) (Or.inl ⟨by rfl, ?_⟩) (by assumption) ?_
              rotate_left
              · intro w hSw; (try dsimp only at hSw); go_simp; (try with_reducible rfl)
              try simp only [Act.put]
              refine wpAnyH_take (i := 5) (v := ?_) rfl (by kernel_rfl) (by kernel_rfl) (by kernel_rfl) (fun _ _ _ h => h) (Or.inl ⟨by rfl, ?_⟩) (by assumption) ?_
              rotate_left
              · intro w hSw; (try dsimp only at hSw); go_simp; (try with_reducible rfl)
              try simp only [Act.put]
              refine wpAnyH_take (i := 6) (v := ?_) rfl (by kernel_rfl) (by kernel_rfl) (by kernel_rfl) (fun _ _ _ h => h) (Or.inl ⟨by rfl, ?_⟩) (by assumption) ?_
              rotate_left
              · intro w hSw; (try dsimp only at hSw); go_simp; (try with_reducible rfl)
              try simp only [Act.put]
              refine wpAnyH_take (i := 7) (v := ?_) rfl (by kernel_rfl) (by kernel_rfl) (by kernel_rfl) (fun _ _ _ h => h) (Or.inl ⟨by rfl, ?_⟩) (by assumption) ?_
              rotate_left
              · intro w hSw; (try dsimp only at hSw); go_simp; (try with_reducible rfl)
              try simp only [Act.put]
              refine wpAnyH_take (i := 8) (v := ?_) rfl (by kernel_rfl) (by kernel_rfl) (by kernel_rfl) (fun _ _ _ h => h) (Or.inl ⟨by rfl, ?_⟩) (by assumption) ?_
              rotate_left
              · intro w hSw; (try dsimp only at hSw); go_simp; (try with_reducible rfl)
              try simp only [Act.put]
              refine wpAnyH_take (i := 9) (v := ?_) rfl (by kernel_rfl) (by kernel_rfl) (by kernel_rfl) (fun _ _ _ h => h) (Or.inl ⟨by rfl, ?_⟩) (by assumption) ?_
              rotate_left
              · intro w hSw; (try dsimp only at hSw); go_simp; (try with_reducible rfl)
              try simp only [Act.put]
              refine wpAnyH_take (i := 10) (v := ?_) rfl (by kernel_rfl) (by kernel_rfl) (by kernel_rfl) (fun _ _ _ h => h) (Or.inl ⟨by rfl, ?_⟩) (by assumption) ?_
              rotate_left
              · intro w hSw; (try dsimp only at hSw); go_simp; (try with_reducible rfl)
              try simp only [Act.put]
              refine wpAnyH_take (i := 11) (v := ?_) rfl (by kernel_rfl) (by kernel_rfl) (by kernel_rfl) (fun _ _ _ h => h) (Or.inl ⟨by rfl, ?_⟩) (by assumption) ?_
              rotate_left
              · intro w hSw; (try dsimp only at hSw); go_simp; (try with_reducible rfl)
              try simp only [Act.put]
              refine wpAnyH_take (i := 12) (v := ?_) rfl (by kernel_rfl) (by kernel_rfl) (by kernel_rfl) (fun _ _ _ h => h) (Or.inl ⟨by rfl, ?_⟩) (by assumption) ?_
              rotate_left
              · intro w hSw; (try dsimp only at hSw); go_simp; (try with_reducible rfl)
              try simp only [Act.put]
              refine wpAnyH_ready (rs := [13]) (by kernel_rfl) (by simp) ?_
              refine AllReadyH.cons rfl (fun K hK => ?_) AllReadyH.nil
              go_simp
              (go_at_call 159; (with_reducible refine (hW _).mono ?_); rintro e w3 ⟨rfl, hb3⟩)
              have H7 := Lib.hid ((H6.out.drewN 1).below hb3)
              have d1 := H7.out.st.cells.2.1
              rw [show ((p + 1 : Nat) : Int) = (p : Int) + 1 by omega] at d1
              have f1 := H7.out.st.full.free 1
              refine hK.out _ _ (⟨H7.out.st.cells.1, d1⟩) (fun hHeld => ?_)
              clear hK K
              try simp only [Act.put, List.setIfInBounds_toArray, List.set_cons_zero, List.set_cons_succ]
              refine wpAnyH_take (i := 14) (v := ?_) rfl (by kernel_rfl) (by kernel_rfl) (by kernel_rfl) (fun _ _ _ h => h) (Or.inl ⟨by rfl, ?_⟩) (by assumption) ?_
              rotate_left
              · intro w hSw; (try dsimp only at hSw); go_simp; (try with_reducible rfl)
              try simp only [Act.put, List.setIfInBounds_toArray]
              refine wpAnyH_take (i := 15) (v := ?_) rfl (by kernel_rfl) (by kernel_rfl) (by kernel_rfl) (fun _ _ _ h => h) (Or.inl ⟨by rfl, ?_⟩) (by assumption) ?_
              rotate_left
              · intro w hSw; (try dsimp only at hSw); go_simp; (try with_reducible rfl)
              try simp only [Act.put]
              refine wpAnyH_take (i := 16) (v := ?_) rfl (by kernel_rfl) (by kernel_rfl) (by kernel_rfl) (fun _ _ _ h => h) (Or.inl ⟨by rfl, ?_⟩) (by assumption) ?_
              rotate_left
              · intro w hSw; (try dsimp only at hSw); go_simp; (try with_reducible rfl)
              try simp only [Act.put]
              refine wpAnyH_done (by kernel_rfl) ?_ _
              show Oper.wp _ _ _ _ _ _
              go_simp
              all_goals
                go_wp2_with fail
                go_meet
                have := H7.out.putAt (afterQ l p) (by omega)
                rw [hQ2, show ((p + 1 + rn : Nat) : Int) = (p : Int) + 1 + (rn : Int) by omega] at this
                rw [hQ2]
                exact this
            case rest =>
              have H7 := Lib.hid hcut
              clear hcut H6
              obtain ⟨c0, c1, c2, c3, c4⟩ := H7.out.st.cells
              by_cases h1 : k = 1
              · subst h1
                have HR3 : Hid (R = true) := Lib.hid (by rw [HR2.out]; rfl)
                clear HR2
                go_wp2_with fail
                go_ret
                exact ⟨ret_bool HR3.out.symm, v', v2, B', rb', cap', by rw [HA2.out, ← HE.out]; exact H7.out⟩
              · have g1 : ((k : Int) == 1) = false := by rw [beq_eq_false_iff_ne]; omega
                have HR3 : Hid (R = decide (n < (inn : Int))) := Lib.hid (by rw [HR2.out, decide_eq_false h1]; rfl)
                clear HR2 h1
                go_wp2_with fail
                go_ret
                exact ⟨ret_bool HR3.out.symm, v', v2, B', rb', cap', by rw [HA2.out, ← HE.out]; exact H7.out⟩
end Go.Proofs.YtjfgcbikdibjeaaGreatDoor
