/- Plain laws on block scalars: a folded scalar's header and its rows. -/
import Derived.Test.YtobojdkloblfbaaDoorPBloc4
namespace Go.Proofs.YtobojdkloblfbaaDoor
namespace U
open Go

theorem to_at {l row rest : List UInt8} {p : Nat} (h : l.drop p = row ++ [10] ++ rest) (hn : ∀ b ∈ row, b ≠ 10) : rowTo l p = p + row.length ∧ l.length = p + row.length + 1 + rest.length := by
  have hl := len_shape h (by simp)
  simp only [List.length_append, List.length_singleton] at hl
  refine ⟨rowTo_is (by omega) (by omega) (.inr ?_) fun j h1 h2 => ?_, by omega⟩
  · rw [byt_shape (j := row.length) h (by simp), byt_append_right _ _ _ (Nat.le_refl _), Nat.sub_self]
    rfl
  · obtain ⟨i, rfl⟩ : ∃ i, j = p + i := ⟨j - p, by omega⟩
    rw [byt_shape (a := row ++ [10]) (by rw [h]) (by simp; omega), byt_append_left _ _ _ (by omega)]
    obtain ⟨b, hb, e⟩ := byt_has (m := row) (j := i) (by omega)
    rw [e]
    intro hx
    exact hn b hb (UInt8.toNat_inj.1 hx)
theorem cutW_blank (w : List UInt8) (h : cutW w = w) : cutW (w ++ [32]) = w := by
  unfold cutW at *
  rw [List.reverse_append]
  show (List.dropWhile wh (32 :: w.reverse)).reverse = w
  rw [List.dropWhile_cons, if_pos (by decide)]
  exact h
/-- A comment behind the header. -/
theorem hd_note {l wd body : List UInt8} {e keep : Nat} (hd : l.drop e = [32, 32, 35] ++ wd ++ [32] ++ [10] ++ body) (hh : hdM l 1 = (0, keep, e)) (hl : 1 ≤ l.length) (hw : ∀ b ∈ wd, b ≠ 10) (hc : cutW wd = wd) :
    hdBad l 1 = false ∧ hdHas l 1 = true ∧ hdTrail l 1 = wd ∧ rowTo l 1 = e + 3 + wd.length + 1 := by
  have hn : ∀ b ∈ [32, 32, 35] ++ wd ++ [32], b ≠ (10 : UInt8) := by
    intro b hb
    simp only [List.mem_append, List.mem_cons, List.not_mem_nil, or_false] at hb
    rcases hb with (hb | hb) | hb
    · rcases hb with rfl | rfl | rfl <;> decide
    · exact hw b hb
    · subst hb; decide
  obtain ⟨ht, hlen⟩ := to_at hd hn
  have hb : ∀ j, j < 3 + wd.length + 1 → byt l (e + j) = byt ([32, 32, 35] ++ wd ++ [32]) j := fun j hj => by
    rw [byt_shape (a := [32, 32, 35] ++ wd ++ [32]) (b := [10] ++ body) (by rw [hd, List.append_assoc]) (by simp; omega)]
  have b0 : byt l (e + 0) = 32 := by rw [hb 0 (by omega)]; rfl
  have b1 : byt l (e + 1) = 32 := by rw [hb 1 (by omega)]; rfl
  have b2 : byt l (e + 2) = 35 := by rw [hb 2 (by omega)]; rfl
  have htt : rowTo l e = e + 3 + wd.length + 1 := by
    rw [ht]; simp; omega
  have hlen2 : e + 3 + wd.length + 1 < l.length := by
    rw [hlen]; simp; omega
  have hrun : run whN l e = 2 := by
    refine run_is 2 e (by omega) (fun j h1 h2 => ?_) (.inr ?_)
    · rcases (show j = e ∨ j = e + 1 by omega) with rfl | rfl
      · rw [Nat.add_zero] at b0; rw [b0]; rfl
      · rw [b1]; rfl
    · rw [b2]; rfl
  have hE : hdEnd l 1 = e + 2 := by unfold hdEnd; rw [hh, hrun]
  have h5 := (hdM_is (l := l) (p := 1) hl).2.2.2.2
  rw [hh] at h5
  have hT : rowTo l 1 = e + 3 + wd.length + 1 := by rw [← h5]; exact htt
  have hHas : hdHas l 1 = true := by unfold hdHas; rw [hE, hT]; exact decide_eq_true (by omega)
  refine ⟨?_, hHas, ?_, hT⟩
  · unfold hdBad
    rw [hE, hT, hh]
    refine decide_eq_false ?_
    rintro ⟨-, h | h⟩
    · exact h b2
    · simp only [] at h; omega
  · unfold hdTrail
    rw [hHas, if_pos rfl, hE]
    have hs2 : rowTo l (e + 2) = e + 3 + wd.length + 1 := by
      rw [← htt]
      refine rowTo_same (by omega) (by omega) fun i h1 h2 => ?_
      have := run_all (P := whN) (l := l) i e h1 (by omega)
      intro e10
      rw [e10] at this
      cases this
    unfold noteTx
    rw [hs2, show e + 3 + wd.length + 1 - (e + 2 + 1) = wd.length + 1 by omega]
    have hdd : l.drop (e + 2 + 1) = (wd ++ [32]) ++ ([10] ++ body) := by
      have := drop_app (l := l) (p := e) (a := [32, 32, 35]) (b := wd ++ [32] ++ [10] ++ body) (by rw [hd]; simp)
      rw [show e + 2 + 1 = e + ([32, 32, 35] : List UInt8).length from rfl, this]
      simp
    rw [hdd, List.take_left' (by simp)]
    exact cutW_blank wd hc
def hF (strip : Bool) (c : Option (List UInt8)) : List UInt8 := [62] ++ (if strip then [45] else []) ++ (match c with | none => [] | some w => [32, 32, 35] ++ w ++ [32])
theorem folds_law {strip : Bool} {c : Option (List UInt8)} {xs : List (List UInt8)} {x0 y : List UInt8} {tl ys : List (List UInt8)} (hc : ∀ w, c = some w → (∀ b ∈ w, b ≠ 10) ∧ cutW w = w)
    (hx : ∀ x ∈ xs, ∀ b ∈ x, b ≠ 10) (hx1 : xs = x0 :: tl) (h0 : x0 ≠ []) (h32 : byt x0 0 ≠ 32) (hx2 : xs = ys ++ [y]) (hy : y ≠ []) :
    blocM (hF strip c ++ 10 :: linesR 3 xs) 0 2 = (⟨1, 5, 0, c.isSome, c.getD [], foldB xs [] 0 ++ (if strip then [] else [10])⟩, (((hF strip c).length + 1 + (linesR 3 xs).length : Nat) : Int), 0) := by
  obtain ⟨l, hl⟩ : ∃ l, hF strip c ++ 10 :: linesR 3 xs = l := ⟨_, rfl⟩
  have hll : l.length = (hF strip c).length + 1 + (linesR 3 xs).length := by rw [← hl]; simp; omega
  have hb0 : byt l 0 = 62 := by rw [← hl]; cases strip <;> cases c <;> rfl
  have hs : startB l 0 = true := decide_eq_true ⟨Int.le_refl _, by omega, .inr hb0⟩
  have hfo : folds l 0 = true := decide_eq_true hb0
  have hF1 : 1 ≤ (hF strip c).length := by simp [hF]
  have hdl : l.drop ((hF strip c).length + 1) = linesR 3 xs ++ [] := by
    rw [← hl, List.append_nil, show (hF strip c).length + 1 = (hF strip c ++ [10]).length by simp, show hF strip c ++ 10 :: linesR 3 xs = (hF strip c ++ [10]) ++ linesR 3 xs by simp, List.drop_left]
  have key : ∃ e, hdM l 1 = (0, (if strip then 45 else 0), e) ∧ hdBad l 1 = false ∧ hdHas l 1 = c.isSome ∧ hdTrail l 1 = c.getD [] ∧ rowTo l 1 = (hF strip c).length := by
    cases strip with
    | false =>
      cases c with
      | none =>
        have b1 : byt l 1 = 10 := by rw [← hl]; rfl
        have hh := hd_none (l := l) (p := 1) (by omega)
        obtain ⟨h1, h2, h3, h4⟩ := bare_end (l := l) (p := 1) (by rw [hh]; exact b1) (by omega)
        rw [hh] at h1
        exact ⟨1, hh, h2, h3, h4, h1⟩
      | some w =>
        have b1 : byt l 1 = 32 := by rw [← hl]; rfl
        have hh := hd_none (l := l) (p := 1) (by omega)
        obtain ⟨h1, h2⟩ := hc w rfl
        obtain ⟨k1, k2, k3, k4⟩ := hd_note (l := l) (wd := w) (body := linesR 3 xs) (e := 1) (keep := 0) (by rw [← hl]; simp [hF]) hh (by omega) h1 h2
        exact ⟨1, hh, k1, k2, k3, by rw [k4]; simp [hF]; omega⟩
    | true =>
      cases c with
      | none =>
        have b1 : byt l 1 = 45 := by rw [← hl]; rfl
        have b2 : byt l 2 = 10 := by rw [← hl]; rfl
        have hh := hd_sign (l := l) (p := 1) (.inr b1) (by rw [b2]; omega)
        rw [b1] at hh
        obtain ⟨h1, h2, h3, h4⟩ := bare_end (l := l) (p := 1) (by rw [hh]; exact b2) (by omega)
        rw [hh] at h1
        exact ⟨2, hh, h2, h3, h4, h1⟩
      | some w =>
        have b1 : byt l 1 = 45 := by rw [← hl]; rfl
        have b2 : byt l 2 = 32 := by rw [← hl]; rfl
        have hh := hd_sign (l := l) (p := 1) (.inr b1) (by rw [b2]; omega)
        rw [b1] at hh
        obtain ⟨h1, h2⟩ := hc w rfl
        obtain ⟨k1, k2, k3, k4⟩ := hd_note (l := l) (wd := w) (body := linesR 3 xs) (e := 2) (keep := 45) (by rw [← hl]; simp [hF]) hh (by omega) h1 h2
        exact ⟨2, hh, k1, k2, k3, by rw [k4]; simp [hF]; omega⟩
  obtain ⟨e, hh, hbad, hhas, htr, ht⟩ := key
  have hmain := bloc_lines (l := l) (n := 2) (w := 3) (g := 0) (xs := xs) (tl := tl) (ys := ys) (x0 := x0) (y := y) (rest := []) hs hh hbad ht (by omega) (by omega) (by omega) hx hx1 h0 h32 (by rw [hx2]; simp) hy hdl (stop_end (by omega))
  rw [hl, hmain, hfo, hhas, htr, told_is, ← hx2]
  cases strip <;> rfl
theorem word_cut : ∀ x ∈ ([[97], [98, 99], [100, 45, 101], [102, 95, 103], [104, 49], [120, 121, 122], [195, 169], [107, 35, 108], [109, 58, 110], [111, 46, 112]] : List (List UInt8)), cutW x = x ∧ byt x 0 ≠ 32 ∧ x ≠ [] := by decide
