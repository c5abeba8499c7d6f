/- Plain laws on what stands between: rows of comments, as they are made by hand, are passed in order. -/
import Derived.Test.YtobojdkloblfbaaDoorPNote
namespace Go.Proofs.YtobojdkloblfbaaDoor
namespace U
open Go

theorem drop_app {l a b : List UInt8} {p : Nat} (h : l.drop p = a ++ b) : l.drop (p + a.length) = b := by
  rw [← List.drop_drop, h, List.drop_left]
theorem byt_shape {l a b : List UInt8} {p j : Nat} (h : l.drop p = a ++ b) (hj : j < a.length) : byt l (p + j) = byt a j := by
  rw [← byt_drop, h, byt_append_left _ _ _ hj]
theorem len_shape {l a : List UInt8} {p : Nat} (h : l.drop p = a) (ha : a ≠ []) : l.length = p + a.length := by
  have e : (l.drop p).length = a.length := by rw [h]
  rw [List.length_drop] at e
  have : 0 < a.length := List.length_pos_iff.2 ha
  omega
theorem byt_rep (k : Nat) (b : UInt8) (j : Nat) (h : j < k) : byt (List.replicate k b) j = b.toNat := by
  unfold byt
  rw [List.getD_eq_getElem?_getD, List.getElem?_replicate, if_pos h]; rfl
theorem mark_not {l : List UInt8} {c f : Nat} (h : byt l f ≠ c) : markM l c f = false := by
  unfold markM
  rw [Bool.and_eq_false_iff]
  left; simp; omega
theorem kind_blank {l : List UInt8} {f : Nat} (h : byt l f = 10) : kindF l f = 1 := by
  unfold kindF
  rw [mark_not (by omega), mark_not (by omega), if_neg (by decide), if_neg (by decide), run_stop (by rw [h]; rfl), Nat.add_zero, if_pos (.inr h)]
theorem kind_note {l : List UInt8} {f k : Nat} (hk : run whN l f = k) (hb : k = 0 ∨ byt l f = 32) (h : byt l (f + k) = 35) : kindF l f = 2 := by
  have hl : f + k < l.length := by
    rcases Nat.lt_or_ge (f + k) l.length with h1 | h1
    · exact h1
    · rw [byt_ge l _ h1] at h; omega
  have h1 : byt l f = 35 ∨ byt l f = 32 := by
    rcases hb with hb | hb
    · subst hb; exact .inl h
    · exact .inr hb
  unfold kindF
  rw [mark_not (by omega), mark_not (by omega), if_neg (by decide), if_neg (by decide), hk, if_neg (by omega), if_pos h]
/-- Blank rows are passed. -/
theorem pass_feeds {l : List UInt8} {b0 : Nat} {row : Nat → Option Nat} (hrow : ∀ q, kindM l q = 1 ∨ kindM l q = 2 → row q = none) : ∀ (g p : Nat) (acc : Notes) (nr : Bool), (∀ j, j < g + 1 → byt l (p + j) = 10) →
    p + g < l.length → kindM l (p + g + 1) = 2 → passR l b0 row false p acc nr = passR l b0 row false (p + g + 1) acc nr := by
  intro g
  induction g with
  | zero =>
    intro p acc nr h hl hk
    have h0 := h 0 (by omega)
    simp only [Nat.add_zero] at h0 hl hk ⊢
    have hr := rowFrom_feed h0
    rw [passR_in, if_neg (by omega), if_neg (by rw [h0]; decide), if_pos h0, hrow _ (.inr hk)]
    show passR l b0 row true (p + 1) acc nr = _
    rw [passR_beg, if_neg (by omega)]
  | succ g ih =>
    intro p acc nr h hl hk
    have h0 := h 0 (by omega)
    have h1 := h 1 (by omega)
    simp only [Nat.add_zero] at h0
    have hr := rowFrom_feed h0
    have hk1 : kindM l (p + 1) = 1 := by unfold kindM; rw [hr]; exact kind_blank h1
    rw [passR_in, if_neg (by omega), if_neg (by rw [h0]; decide), if_pos h0, hrow _ (.inl hk1)]
    show passR l b0 row true (p + 1) acc nr = _
    rw [passR_beg, if_neg (by omega), ih (p + 1) acc nr (fun j hj => by rw [show p + 1 + j = p + (j + 1) by omega]; exact h _ (by omega)) (by omega) (by rw [show p + 1 + g + 1 = p + (g + 1) + 1 by omega]; exact hk), show p + 1 + g + 1 = p + (g + 1) + 1 by omega]
theorem above_feeds {l : List UInt8} : ∀ (g p : Nat), (∀ j, j < g + 1 → byt l (p + j) = 10) → kindM l p ≠ 1 → aboveR l (p + g + 1) = g := by
  intro g
  induction g with
  | zero =>
    intro p h hk
    rw [aboveR_step (by omega), Nat.add_zero, Nat.add_sub_cancel, if_neg hk]
  | succ g ih =>
    intro p h hk
    have h1 := h g (by omega)
    have h2 := h (g + 1) (by omega)
    have hr : rowFrom l (p + (g + 1)) = p + (g + 1) := by
      rw [show p + (g + 1) = p + g + 1 by omega]; exact rowFrom_feed h1
    rw [aboveR_step (by omega), Nat.add_sub_cancel, hr]
    have hk1 : kindM l (p + (g + 1)) = 1 := by unfold kindM; rw [hr]; exact kind_blank h2
    rw [if_pos hk1, show p + (g + 1) = p + g + 1 by omega, ih p (fun j hj => h j (by omega)) hk]
/-- Words without White at their ends. -/
def WordOK (w : List UInt8) : Prop := (∀ b ∈ w, b ≠ 10) ∧ cutW w = w
theorem cutW_blanks (w : List UInt8) (h : cutW w = w) : cutW (w ++ [32, 32]) = w := by
  have e : wh 32 = true := by decide
  have e2 : cutW (w ++ [32, 32]) = cutW w := by
    unfold cutW
    rw [List.reverse_append]
    show (List.dropWhile wh (32 :: 32 :: w.reverse)).reverse = _
    rw [List.dropWhile_cons, if_pos e, List.dropWhile_cons, if_pos e]
  rw [e2, h]
abbrev NRow := Nat × Nat × List UInt8
def nrow (r : NRow) : List UInt8 := [10] ++ List.replicate r.1 10 ++ List.replicate r.2.1 32 ++ [35] ++ r.2.2 ++ [32, 32]
def nrows (rs : List NRow) : List UInt8 := rs.flatMap nrow
def nwant (rs : List NRow) : Notes := rs.map fun r => (r.2.2, r.1)
theorem nrows_snoc (rs : List NRow) (r : NRow) : nrows (rs ++ [r]) = nrows rs ++ nrow r := by simp [nrows]
theorem nwant_snoc (rs : List NRow) (r : NRow) : nwant (rs ++ [r]) = nwant rs ++ [(r.2.2, r.1)] := by simp [nwant]
theorem pass_row {l : List UInt8} {row : Nat → Option Nat} (hrow : ∀ q, kindM l q = 1 ∨ kindM l q = 2 → row q = none) (r : NRow) (hw : WordOK r.2.2) {p : Nat} {X : List UInt8} (hX : l.drop p = nrow r ++ 10 :: X) (h1 : 1 ≤ p) (hk : kindM l p ≠ 1) (acc : Notes) (nr : Bool) (hnr : acc = [] → nr = false) :
    passR l 1 row false p acc nr = passR l 1 row false (p + (nrow r).length) (acc ++ [(r.2.2, r.1)]) nr ∧ kindM l (p + (nrow r).length) ≠ 1 := by
  obtain ⟨g, n, w⟩ := r
  simp only [nrow] at hX hk ⊢
  simp only [List.append_assoc] at hX
  have hL := len_shape hX (by simp)
  simp only [List.length_append, List.length_cons, List.length_nil, List.length_replicate] at hL ⊢
  have e0 : ([10] ++ List.replicate g 10 : List UInt8) = List.replicate (g + 1) 10 := rfl
  rw [← List.append_assoc, e0] at hX
  have D2 := drop_app hX
  rw [List.length_replicate] at D2
  have D3 := drop_app D2
  rw [List.length_replicate] at D3
  have D4 := drop_app D3
  have D5 : l.drop (p + (g + 1) + n + [(35 : UInt8)].length) = (w ++ [32, 32]) ++ 10 :: X := by rw [D4]; simp
  have D6 := drop_app D5
  simp only [List.length_cons, List.length_nil, List.length_append] at D5 D6
  have hf : ∀ j, j < g + 1 → byt l (p + j) = 10 := fun j hj => by rw [byt_shape hX (by rw [List.length_replicate]; exact hj), byt_rep _ _ _ hj]; rfl
  have hn : ∀ j, j < n → byt l (p + (g + 1) + j) = 32 := fun j hj => by rw [byt_shape D2 (by rw [List.length_replicate]; exact hj), byt_rep _ _ _ hj]; rfl
  have h35 : byt l (p + (g + 1) + n) = 35 := by exact byt_shape (j := 0) D3 (by simp)
  have hT : byt l (p + (g + 1) + n + 1 + (w.length + 2)) = 10 := by
    have := byt_drop l (p + (g + 1) + n + (0 + 1) + (w.length + (0 + 1 + 1))) 0
    rw [D6] at this
    rw [show p + (g + 1) + n + 1 + (w.length + 2) = p + (g + 1) + n + (0 + 1) + (w.length + (0 + 1 + 1)) + 0 by omega, ← this]; rfl
  have hin : ∀ j, p + (g + 1) + n ≤ j → j < p + (g + 1) + n + 1 + (w.length + 2) → byt l j ≠ 10 := by
    intro j ha hb
    rcases Nat.lt_or_ge j (p + (g + 1) + n + 1) with hj | hj
    · rw [show j = p + (g + 1) + n by omega, h35]; decide
    · obtain ⟨d, rfl⟩ : ∃ d, j = p + (g + 1) + n + (0 + 1) + d := ⟨j - (p + (g + 1) + n + 1), by omega⟩
      rw [byt_shape D5 (by simp; omega)]
      intro h10
      have hd : d < (w ++ [(32 : UInt8), 32]).length := by simp; omega
      have hg := byt_get (w ++ [(32 : UInt8), 32]) d hd
      have hm : (w ++ [(32 : UInt8), 32])[d] ∈ w ++ [(32 : UInt8), 32] := List.getElem_mem hd
      have : (w ++ [(32 : UInt8), 32])[d] = 10 := UInt8.toNat.inj (by rw [hg, h10]; rfl)
      rw [this] at hm
      rcases List.mem_append.1 hm with hm | hm
      · exact hw.1 _ hm rfl
      · simp at hm
  generalize hr : p + (g + 1) = r at *
  have hrl : p + g + 1 = r := by omega
  have hrf : rowFrom l r = r := by rw [← hrl]; exact rowFrom_feed (hf g (by omega))
  have hrun : run whN l r = n := run_is n r (by omega) (fun j ha hb => by rw [show j = r + (j - r) by omega, hn _ (by omega)]; rfl) (.inr (by rw [h35]; rfl))
  have hkr : kindF l r = 2 := kind_note hrun (by
    rcases Nat.eq_zero_or_pos n with h0 | h0
    · exact .inl h0
    · have := hn 0 h0; rw [Nat.add_zero] at this; exact .inr this) h35
  have hrow2 : rowFrom l (r + n) = r := by
    rw [rowFrom_same (p := r) (by omega) (fun j ha hb => by rw [show j = r + (j - r) by omega, hn _ (by omega)]; decide), hrf]
  have hto : rowTo l (r + n) = r + n + 1 + (w.length + 2) := rowTo_is (by omega) (by omega) (.inr hT) hin
  have hnote : isNote l (r + n) = true := by
    unfold isNote endsM
    rw [h35]
    have : whN (byt l (r + n - 1)) = true ∨ byt l (r + n - 1) = 10 := by
      rcases Nat.eq_zero_or_pos n with h0 | h0
      · right
        rw [show r + n - 1 = p + g by omega]; exact hf g (by omega)
      · left
        rw [show r + n - 1 = r + (n - 1) by omega, hn _ (by omega)]; rfl
    rcases this with h | h <;> simp [h]
  have htx : noteTx l (r + n) = w := by
    unfold noteTx
    rw [hto, show r + n + 1 + (w.length + 2) - (r + n + 1) = (w ++ [(32 : UInt8), 32]).length by simp, show r + n + 1 = r + n + (0 + 1) by omega, D5, List.take_left]
    exact cutW_blanks w hw.2
  have hab : aboveM l (r + n) = g := by
    unfold aboveM firstM
    rw [hrow2, hrun, if_neg (by omega), ← hrl]
    exact above_feeds g p hf hk
  have hend : rowFrom l (r + n + 1 + (w.length + 2)) = r := by
    rw [rowFrom_same (p := r + n) (by omega) hin, hrow2]
  have hq : p + (0 + 1 + (g + (n + (0 + 1 + (w.length + (0 + 1 + 1)))))) = r + n + 1 + (w.length + 2) := by omega
  have hq2 : p + (0 + 1 + g + n + (0 + 1) + w.length + (0 + 1 + 1)) = r + n + 1 + (w.length + 2) := by omega
  have hkend : kindM l (r + n + 1 + (w.length + 2)) ≠ 1 := by unfold kindM; rw [hend, hkr]; decide
  have key : passR l 1 row false p acc nr = passR l 1 row false (r + n + 1 + (w.length + 2)) (acc ++ [(w, g)]) nr := by
    rw [pass_feeds hrow g p acc nr hf (by omega) (by rw [hrl]; unfold kindM; rw [hrf]; exact hkr), hrl, pass_white n r acc nr (by omega), passR_in, if_neg (by omega), h35, if_neg (by decide), if_neg (by decide), if_pos hnote, hto, htx, hab, hrow2]
    congr 1
    split
    · rename_i he
      rw [hnr (by simpa using he)]
      simp; omega
    · rfl
  first
    | exact ⟨by rw [key, hq2], by rw [hq2]; exact hkend⟩
    | exact ⟨by rw [key, hq], by rw [hq]; exact hkend⟩
theorem pass_rows {l : List UInt8} {row : Nat → Option Nat} (hrow : ∀ q, kindM l q = 1 ∨ kindM l q = 2 → row q = none) : ∀ (rs : List NRow), (∀ r ∈ rs, WordOK r.2.2) → ∀ {p : Nat} {X : List UInt8}, l.drop p = nrows rs ++ 10 :: X → 1 ≤ p → kindM l p ≠ 1 → ∀ (acc : Notes) (nr : Bool), (acc = [] → nr = false) →
    passR l 1 row false p acc nr = passR l 1 row false (p + (nrows rs).length) (acc ++ nwant rs) nr ∧ kindM l (p + (nrows rs).length) ≠ 1 := by
  intro rs
  induction rs with
  | nil => intro _ p X _ _ hk acc nr _; simp [nrows, nwant]; exact hk
  | cons r rs ih =>
    intro hw p X hX h1 hk acc nr hnr
    have e : nrows (r :: rs) = nrow r ++ nrows rs := by simp [nrows]
    have e2 : nwant (r :: rs) = (r.2.2, r.1) :: nwant rs := by simp [nwant]
    rw [e, List.append_assoc] at hX
    have hX2 : ∃ Y, nrows rs ++ 10 :: X = 10 :: Y := by
      cases rs with
      | nil => exact ⟨_, rfl⟩
      | cons r2 rs2 => exact ⟨_, by simp [nrows, nrow]; rfl⟩
    obtain ⟨Y, hY⟩ := hX2
    have hX3 := hX
    rw [hY] at hX3
    obtain ⟨ha, hb⟩ := pass_row hrow r (hw r (by simp)) hX3 h1 hk acc nr hnr
    have hD := drop_app hX
    obtain ⟨hc, hd⟩ := ih (fun r hr => hw r (by simp [hr])) hD (by omega) hb (acc ++ [(r.2.2, r.1)]) nr (by simp)
    rw [ha, hc, e, e2, List.length_append, ← Nat.add_assoc]
    exact ⟨by simp, hd⟩
end U
end Go.Proofs.YtobojdkloblfbaaDoor
