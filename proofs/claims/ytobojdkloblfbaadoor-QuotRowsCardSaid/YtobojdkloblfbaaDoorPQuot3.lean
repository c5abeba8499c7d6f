/- Plain law: rows of words within quotes. -/
import Derived.Test.YtobojdkloblfbaaDoorPQuot2
namespace Go.Proofs.YtobojdkloblfbaaDoor
namespace U
open Go

/-! ### Rows made one text, item by item: a word, how many blank rows stand behind it, whether a backslash does. -/
abbrev QI := List UInt8 × Nat × Bool
def gapQ (b : Nat) : List UInt8 := if b = 0 then [32] else List.replicate b 10
def partOf (A : List (List UInt8 × Nat)) : List (List UInt8) := A.flatMap fun x => x.1 :: List.replicate x.2 []
def textU (A : List (List UInt8 × Nat)) : List UInt8 := A.flatMap fun x => x.1 ++ gapQ x.2
def rowsOf (items : List QI) (last : List UInt8) : List QR := (items.flatMap fun x => (x.1, 0, x.2.2) :: List.replicate x.2.1 newQ) ++ [(last, 0, false)]
def textOf (items : List QI) (last : List UInt8) : List UInt8 := (items.flatMap fun x => x.1 ++ if x.2.2 then List.replicate x.2.1 10 else gapQ x.2.1) ++ last
theorem flow_blanks {t : List (List UInt8)} (ht : t ≠ []) : ∀ g b : Nat, flowF (List.replicate g [] ++ t) false b = flowF t false (b + g) := by
  intro g
  induction g with
  | zero => intro b; simp
  | succ g ih =>
    intro b
    rw [List.replicate_succ, List.cons_append, flowF, if_pos ⟨rfl, rfl, by simp [ht]⟩, ih]
    congr 1
    omega
theorem flow_off {x : List UInt8} {t : List (List UInt8)} (hx : x ≠ []) (b : Nat) : flowF (x :: t) false b = gapQ b ++ x ++ flowF t false 0 := by
  rw [flowF, if_neg (fun h => hx h.1)]
  rfl
theorem flow_part (w : List UInt8) (hw : w ≠ []) : ∀ (A : List (List UInt8 × Nat)) (b : Nat), (∀ x ∈ A, x.1 ≠ []) → flowF (partOf A ++ [w]) false b = gapQ b ++ textU A ++ w := by
  intro A
  induction A with
  | nil => intro b _; simp [partOf, textU, flow_off hw, flowF]
  | cons x A ih =>
    intro b h
    have e : partOf (x :: A) ++ [w] = x.1 :: (List.replicate x.2 [] ++ (partOf A ++ [w])) := by simp [partOf]
    rw [e, flow_off (h x (by simp)), flow_blanks (by simp), ih _ (fun y hy => h y (by simp [hy]))]
    simp [textU]
theorem flow_first (w : List UInt8) (hw : w ≠ []) (A : List (List UInt8 × Nat)) (h : ∀ x ∈ A, x.1 ≠ []) : flowM (partOf A ++ [w]) = textU A ++ w := by
  unfold flowM
  cases A with
  | nil => simp [partOf, textU, flowF]
  | cons x A =>
    have e : partOf (x :: A) ++ [w] = x.1 :: (List.replicate x.2 [] ++ (partOf A ++ [w])) := by simp [partOf]
    rw [e, flowF, if_neg (fun h => by cases h.2.1), flow_blanks (by simp), flow_part w hw A _ (fun y hy => h y (by simp [hy]))]
    simp [textU]
theorem jn_tied {x : QR} {t : List QR} (hx : x.1 ≠ []) (b : Nat) (part : List (List UInt8)) (out : List UInt8) : jnF (x :: t) true b part out = jnF (x :: t) false 0 part (out ++ List.replicate b 10) := by
  have e1 : jnF (x :: t) true b part out = if x.2.2 = true then jnF t true 0 [] ((if true = true then out ++ List.replicate b 10 else out) ++ flowM (part ++ [x.1])) else jnF t false 0 (part ++ [x.1]) (if true = true then out ++ List.replicate b 10 else out) := by rw [jnF, if_neg (fun h => hx h.2.1)]
  have e2 : jnF (x :: t) false 0 part (out ++ List.replicate b 10) = if x.2.2 = true then jnF t true 0 [] ((if false = true then (out ++ List.replicate b 10) ++ List.replicate 0 10 else (out ++ List.replicate b 10)) ++ flowM (part ++ [x.1])) else jnF t false 0 (part ++ [x.1]) (if false = true then (out ++ List.replicate b 10) ++ List.replicate 0 10 else (out ++ List.replicate b 10)) := by rw [jnF, if_neg (fun h => hx h.2.1)]
  rw [e1, e2]
  simp
theorem jn_blanks {t : List QR} (ht : t ≠ []) (part : List (List UInt8)) (out : List UInt8) : ∀ g b : Nat, jnF (List.replicate g newQ ++ t) true b part out = jnF t true (b + g) part out := by
  intro g
  induction g with
  | zero => intro b; simp
  | succ g ih =>
    intro b
    rw [List.replicate_succ, List.cons_append, jnF, if_pos ⟨rfl, rfl, rfl, by simp [ht]⟩, ih]
    congr 1
    omega
theorem jn_free {t : List QR} (out : List UInt8) : ∀ (g : Nat) (part : List (List UInt8)), jnF (List.replicate g newQ ++ t) false 0 part out = jnF t false 0 (part ++ List.replicate g []) out := by
  intro g
  induction g with
  | zero => intro b; simp
  | succ g ih =>
    intro part
    rw [List.replicate_succ, List.cons_append, jnF, if_neg (by simp), if_neg (by simp [newQ])]
    simp only [Bool.false_eq_true, if_false]
    rw [ih]
    simp [newQ, List.replicate_succ]
theorem jn_items (last : List UInt8) (hl : last ≠ []) : ∀ (items : List QI) (A : List (List UInt8 × Nat)) (out : List UInt8), (∀ x ∈ items, x.1 ≠ []) → (∀ x ∈ A, x.1 ≠ []) →
    jnF (rowsOf items last) false 0 (partOf A) out = out ++ textU A ++ textOf items last := by
  intro items
  induction items with
  | nil =>
    intro A out _ hA
    have e : rowsOf [] last = [(last, 0, false)] := rfl
    rw [e, jnF, if_neg (by simp), if_neg (by simp), jnF, flow_first last hl A hA]
    simp [textOf]
  | cons x items ih =>
    intro A out h hA
    obtain ⟨w, g, on⟩ := x
    have hw : w ≠ [] := h (w, g, on) (by simp)
    have h' : ∀ x ∈ items, x.1 ≠ [] := fun y hy => h y (by simp [hy])
    have e : rowsOf ((w, g, on) :: items) last = (w, 0, on) :: (List.replicate g newQ ++ rowsOf items last) := by simp [rowsOf]
    have hne : rowsOf items last ≠ [] := by simp [rowsOf]
    rw [e, jnF, if_neg (by simp)]
    cases on with
    | true =>
      rw [if_pos rfl, jn_blanks hne, flow_first w hw A hA]
      have hh : ∃ y t, rowsOf items last = y :: t ∧ y.1 ≠ [] := by
        cases items with
        | nil => exact ⟨(last, 0, false), [], rfl, hl⟩
        | cons y t => exact ⟨_, _, rfl, h' y (by simp)⟩
      obtain ⟨y, t, e2, hy⟩ := hh
      rw [e2, jn_tied hy, ← e2]
      have := ih [] ((if false = true then out ++ List.replicate 0 10 else out) ++ (textU A ++ w) ++ List.replicate (0 + g) 10) h' (fun _ h => by cases h)
      rw [show partOf [] = [] from rfl] at this
      rw [this]
      simp [textU, textOf]
    | false =>
      rw [if_neg (by simp), jn_free]
      have e3 : partOf A ++ [w] ++ List.replicate g [] = partOf (A ++ [(w, g)]) := by simp [partOf]
      rw [e3, ih _ _ h' (by
        intro y hy
        rcases List.mem_append.1 hy with hy | hy
        · exact hA y hy
        · obtain rfl := List.mem_singleton.1 hy
          exact hw)]
      simp [textU, textOf]
theorem join_items (items : List QI) (last : List UInt8) (hl : last ≠ []) (h : ∀ x ∈ items, x.1 ≠ []) : joinQ (rowsOf items last) = textOf items last := by
  have := jn_items last hl items [] [] h (fun _ h => by cases h)
  unfold joinQ
  simpa [textU, partOf] using this

/-! ### The reader, item by item. -/
theorem re_feed0 (q : Nat) (es : List QR) (c : QR) (a ws t : List UInt8) (hw : ∀ b ∈ ws, whN b.toNat = true) (ht : t ≠ []) (h0 : whN (byt t 0) = false) (h1 : byt (ws ++ t) 0 = 32 ∨ byt (ws ++ t) 0 = 10) :
    Re (a ++ 10 :: (ws ++ t)) 0 q a.length es c (a.length + 1 + ws.length) (es ++ [trimQ c]) newQ := by
  intro R hR
  have htl : 0 < t.length := List.length_pos_iff.2 ht
  generalize hl : a ++ 10 :: (ws ++ t) = l at *
  have hlen : l.length = a.length + 1 + ws.length + t.length := by rw [← hl]; simp; omega
  have b0 : byt l a.length = 10 := by rw [← hl]; exact byt_at a _ 0
  have bj : ∀ j, byt l (a.length + 1 + j) = byt (ws ++ t) j := by
    intro j
    rw [← hl, show a.length + 1 + j = a.length + (j + 1) by omega, byt_at]
    rfl
  have hb1 : byt l (a.length + 1) = 32 ∨ byt l (a.length + 1) = 10 := by have := bj 0; rw [Nat.add_zero] at this; rw [this]; exact h1
  have hf : rowFrom l (a.length + 1) = a.length + 1 := rowFrom_is (Nat.le_refl _) (.inr b0) (fun j h2 h3 => by omega)
  have hrun : run whN l (a.length + 1) = ws.length := by
    refine run_is ws.length _ (by omega) (fun j h2 h3 => ?_) (.inr ?_)
    · obtain ⟨k, rfl⟩ : ∃ k, j = a.length + 1 + k := ⟨j - (a.length + 1), by omega⟩
      rw [bj k, byt_append_left _ _ _ (by omega)]
      rw [← byt_get ws k (by omega)]
      exact hw _ (List.getElem_mem _)
    · rw [bj, byt_append_right _ _ _ (Nat.le_refl _), Nat.sub_self]
      exact h0
  have hmark : ∀ c : Nat, c = 45 ∨ c = 46 → markM l c (a.length + 1) = false := by
    intro c hc
    unfold markM
    rw [decide_eq_false (by omega)]
    rfl
  have hk : kindM l (a.length + 1) = kindF l (a.length + 1) := by unfold kindM; rw [hf]
  have hk34 : ¬ (kindM l (a.length + 1) = 3 ∨ kindM l (a.length + 1) = 4) := by
    rw [hk]
    unfold kindF
    rw [hmark 45 (.inl rfl), hmark 46 (.inr rfl)]
    simp only [Bool.false_eq_true, if_false]
    split
    · omega
    · split <;> omega
  have hok : kindM l (a.length + 1) = 1 ∨ (0 : Int) < (inM l (a.length + 1) : Int) := by
    rcases hb1 with h | h
    · right
      unfold inM
      rw [hf, run_step (by omega) (by rw [h]; rfl)]
      omega
    · left
      rw [hk]
      unfold kindF
      rw [hmark 45 (.inl rfl), hmark 46 (.inr rfl)]
      have : run whN l (a.length + 1) = 0 := run_stop (by rw [h]; rfl)
      simp only [Bool.false_eq_true, if_false, this, Nat.add_zero]
      rw [if_pos (.inr h)]
  refine sc_feed (by omega) b0 hk34 hok ?_
  have : afterQ l a.length = a.length + 1 + ws.length := by unfold afterQ; rw [hrun]
  rw [this]
  exact hR
/-- Blank rows, the first one with no blank, the next one with one, and so on; at most two of them. -/
def blankRows (g : Nat) : List UInt8 := if g = 0 then [] else if g = 1 then [10] else [10, 32, 10]
theorem re_gap (q : Nat) (es : List QR) (c : QR) (a ws t : List UInt8) (g : Nat) (hg : g < 3) (hw : ∀ b ∈ ws, whN b.toNat = true) (ht : t ≠ []) (h0 : whN (byt t 0) = false) (h1 : byt (ws ++ t) 0 = 32) :
    Re (a ++ 10 :: (blankRows g ++ ws ++ t)) 0 q a.length es c (a.length + 1 + (blankRows g).length + ws.length) (es ++ trimQ c :: List.replicate g newQ) newQ := by
  have hN : trimQ newQ = newQ := rfl
  have h3 : g = 0 ∨ g = 1 ∨ g = 2 := by omega
  rcases h3 with rfl | rfl | rfl
  · have := re_feed0 q es c a ws t hw ht h0 (.inl h1)
    simpa [blankRows] using this
  · have s1 := re_feed0 q es c a [] (10 :: (ws ++ t)) (fun _ h => by cases h) (by simp) rfl (.inr rfl)
    have s2 := re_feed0 q (es ++ [trimQ c]) newQ (a ++ [10]) ws t hw ht h0 (.inl h1)
    rw [hN] at s2
    have e : a ++ [10] ++ 10 :: (ws ++ t) = a ++ 10 :: ([] ++ 10 :: (ws ++ t)) := by simp
    rw [e, List.length_append] at s2
    have s := s1.trans s2
    simpa [blankRows] using s
  · have s1 := re_feed0 q es c a [] (10 :: ([32] ++ 10 :: (ws ++ t))) (fun _ h => by cases h) (by simp) rfl (.inr rfl)
    have s2 := re_feed0 q (es ++ [trimQ c]) newQ (a ++ [10]) [32] (10 :: (ws ++ t)) (fun b h => by obtain rfl := List.mem_singleton.1 h; rfl) (by simp) rfl (.inl rfl)
    have s3 := re_feed0 q (es ++ [trimQ c] ++ [newQ]) newQ (a ++ [10, 10, 32]) ws t hw ht h0 (.inl h1)
    rw [hN] at s2 s3
    have e2 : a ++ [10] ++ 10 :: ([32] ++ 10 :: (ws ++ t)) = a ++ 10 :: ([] ++ 10 :: ([32] ++ 10 :: (ws ++ t))) := by simp
    have e3 : a ++ [10, 10, 32] ++ 10 :: (ws ++ t) = a ++ 10 :: ([] ++ 10 :: ([32] ++ 10 :: (ws ++ t))) := by simp
    rw [e2, List.length_append] at s2
    rw [e3, List.length_append] at s3
    have s := (s1.trans s2).trans s3
    simpa [blankRows] using s
/-- A word's row within double quotes, and what stands up to the next one. -/
def itemTx (w : List UInt8) (g inn : Nat) (on wt : Bool) : List UInt8 :=
  w ++ ((if wt && !on then [32, 9, 32] else []) ++ (if on then [92] else []) ++ 10 :: (blankRows g ++ (List.replicate (inn + 1) 32 ++ if wt then [9] else [])))
theorem re_item (es : List QR) (a w t : List UInt8) (g inn : Nat) (on wt : Bool) (hg : g < 3) (hw : ∀ y ∈ w, calmQ 34 y) (hc : cutW (w ++ [32, 9, 32]) = w) (hc' : cutW w = w) (ht : t ≠ []) (h0 : whN (byt t 0) = false) :
    Re (a ++ itemTx w g inn on wt ++ t) 0 34 a.length es newQ (a.length + (itemTx w g inn on wt).length) (es ++ (w, 0, on) :: List.replicate g newQ) newQ := by
  have hws : ∀ b ∈ (List.replicate (inn + 1) (32 : UInt8) ++ if wt then [9] else []), whN b.toNat = true := by
    intro b hb
    rcases List.mem_append.1 hb with hb | hb
    · obtain ⟨_, rfl⟩ := List.mem_replicate.1 hb; rfl
    · cases wt with
      | true => obtain rfl := List.mem_singleton.1 hb; rfl
      | false => cases hb
  have h1 : byt ((List.replicate (inn + 1) (32 : UInt8) ++ if wt then [9] else []) ++ t) 0 = 32 := rfl
  generalize hW : (List.replicate (inn + 1) (32 : UInt8) ++ if wt then [9] else []) = ws at *
  have key : ∀ (m : List UInt8) (c : QR), Re (a ++ (w ++ m ++ 10 :: (blankRows g ++ ws)) ++ t) 0 34 a.length es newQ (a.length + (w ++ m).length) es c → trimQ c = (w, 0, on) →
      Re (a ++ (w ++ m ++ 10 :: (blankRows g ++ ws)) ++ t) 0 34 a.length es newQ (a.length + (w ++ m ++ 10 :: (blankRows g ++ ws)).length) (es ++ (w, 0, on) :: List.replicate g newQ) newQ := by
    intro m c hr hcq
    have s := re_gap 34 es c (a ++ (w ++ m)) ws t g hg hws ht h0 h1
    rw [hcq] at s
    have e : a ++ (w ++ m) ++ 10 :: (blankRows g ++ ws ++ t) = a ++ (w ++ m ++ 10 :: (blankRows g ++ ws)) ++ t := by simp
    have e2 : (a ++ (w ++ m)).length + 1 + (blankRows g).length + ws.length = a.length + (w ++ m ++ 10 :: (blankRows g ++ ws)).length := by simp; omega
    rw [e, e2, List.length_append] at s
    exact hr.trans s
  unfold itemTx
  rw [hW]
  have hbytes : ∀ (m : List UInt8) (t' : List UInt8), (∀ y ∈ m, calmQ 34 y) → Re (a ++ (w ++ m) ++ t') 0 34 a.length es newQ (a.length + (w ++ m).length) es (w ++ m, 0, false) := by
    intro m t' hm
    have := re_bytes 0 34 es t' (w ++ m) a [] 0 false (fun y hy => (List.mem_append.1 hy).elim (hw y) (hm y))
    exact this
  cases on with
  | true =>
    have s := hbytes [] ([92] ++ (10 :: (blankRows g ++ ws)) ++ t) (fun _ h => by cases h)
    rw [List.append_nil] at s
    have e : a ++ w ++ ([92] ++ (10 :: (blankRows g ++ ws)) ++ t) = a ++ (w ++ [92] ++ 10 :: (blankRows g ++ ws)) ++ t := by simp
    rw [e] at s
    have tie : Re (a ++ (w ++ [92] ++ 10 :: (blankRows g ++ ws)) ++ t) 0 34 (a.length + w.length) es (w, 0, false) (a.length + (w ++ [92]).length) es (w, 0, true) := by
      intro R hR
      have e3 : a ++ (w ++ [92] ++ 10 :: (blankRows g ++ ws)) ++ t = a ++ w ++ (92 :: 10 :: (blankRows g ++ ws ++ t)) := by simp
      have b0 : byt (a ++ (w ++ [92] ++ 10 :: (blankRows g ++ ws)) ++ t) (a.length + w.length) = 92 := by rw [e3, ← List.length_append]; exact byt_at (a ++ w) _ 0
      have b1 : byt (a ++ (w ++ [92] ++ 10 :: (blankRows g ++ ws)) ++ t) (a.length + w.length + 1) = 10 := by rw [e3, ← List.length_append]; exact byt_at (a ++ w) _ 1
      refine sc_tie (by simp) b0 rfl b1 ?_
      rw [List.length_append, ← Nat.add_assoc] at hR
      exact hR
    have := key [92] (w, 0, true) (s.trans tie) rfl
    simpa using this
  | false =>
    cases wt with
    | true =>
      have s := hbytes [32, 9, 32] ((10 :: (blankRows g ++ ws)) ++ t) (fun y hy => by
        simp at hy
        rcases hy with rfl | rfl | rfl <;> exact ⟨by decide, by decide, by decide⟩)
      have e : a ++ (w ++ [32, 9, 32]) ++ ((10 :: (blankRows g ++ ws)) ++ t) = a ++ (w ++ [32, 9, 32] ++ 10 :: (blankRows g ++ ws)) ++ t := by simp
      rw [e] at s
      have := key [32, 9, 32] _ s (by unfold trimQ; simp [hc])
      simpa using this
    | false =>
      have s := hbytes [] ((10 :: (blankRows g ++ ws)) ++ t) (fun _ h => by cases h)
      have e : a ++ (w ++ []) ++ ((10 :: (blankRows g ++ ws)) ++ t) = a ++ (w ++ [] ++ 10 :: (blankRows g ++ ws)) ++ t := by simp
      rw [e] at s
      have := key [] _ s (by unfold trimQ; simp [hc'])
      simpa using this
end U
end Go.Proofs.YtobojdkloblfbaaDoor
