/- Plain laws on block scalars: a literal's rows. -/
import Derived.Test.YtobojdkloblfbaaDoorPBloc4
namespace Go.Proofs.YtobojdkloblfbaaDoor
namespace U
open Go

def hBk (k : Nat) : List UInt8 := if k = 0 then [124] else if k = 1 then [124, 45] else [124, 43]
theorem back_law {f : Nat → List UInt8 × Nat} {x m k : Nat} {rest : List UInt8} (hk : k < 3) (hx : 1 ≤ x) (hf : ∀ i, (f i).1 ≠ [] ∧ ∀ b ∈ (f i).1, b ≠ 10) (h32 : byt (f 0).1 0 ≠ 32) (hr : rest = [] ∨ rest = [122, 10]) :
    blocM (hBk k ++ 10 :: (linesR x (rowsU f (m + 1)) ++ rest)) 0 0 = (⟨1, 4, 0, false, [], wantU f m k⟩, (((hBk k).length + 1 + (linesR x (rowsU f (m + 1))).length : Nat) : Int), 0) := by
  obtain ⟨xs, hxs⟩ : ∃ xs, rowsU f (m + 1) = xs := ⟨_, rfl⟩
  rw [hxs]
  obtain ⟨l, hl⟩ : ∃ l, hBk k ++ 10 :: (linesR x xs ++ rest) = l := ⟨_, rfl⟩
  have hll : l.length = (hBk k).length + 1 + (linesR x xs).length + rest.length := by rw [← hl]; simp; omega
  have hb0 : byt l 0 = 124 := by
    rw [← hl]
    rcases (show k = 0 ∨ k = 1 ∨ k = 2 by omega) with rfl | rfl | rfl <;> rfl
  have hs : startB l 0 = true := decide_eq_true ⟨Int.le_refl _, by omega, .inl hb0⟩
  have hfo : folds l 0 = false := decide_eq_false (by rw [hb0]; omega)
  have hdl : l.drop ((hBk k).length + 1) = linesR x xs ++ rest := by
    rw [← hl, show (hBk k).length + 1 = (hBk k ++ [10]).length by simp, show hBk k ++ 10 :: (linesR x xs ++ rest) = (hBk k ++ [10]) ++ (linesR x xs ++ rest) by simp, List.drop_left]
  have key : ∃ e, hdM l 1 = (0, keepU k, e) ∧ hdBad l 1 = false ∧ hdHas l 1 = false ∧ hdTrail l 1 = [] ∧ rowTo l 1 = (hBk k).length := by
    rcases (show k = 0 ∨ k = 1 ∨ k = 2 by omega) with rfl | rfl | rfl
    · have b1 : byt l 1 = 10 := by rw [← hl]; rfl
      have hh := hd_none (l := l) (p := 1) (by omega)
      obtain ⟨h1, h2, h3, h4⟩ := bare_end (l := l) (p := 1) (by rw [hh]; exact b1) (by omega)
      rw [hh] at h1
      exact ⟨1, hh, h2, h3, h4, h1⟩
    · have b1 : byt l 1 = 45 := by rw [← hl]; rfl
      have b2 : byt l 2 = 10 := by rw [← hl]; rfl
      have hh := hd_sign (l := l) (p := 1) (.inr b1) (by rw [b2]; omega)
      rw [b1] at hh
      obtain ⟨h1, h2, h3, h4⟩ := bare_end (l := l) (p := 1) (by rw [hh]; exact b2) (by omega)
      rw [hh] at h1
      exact ⟨2, hh, h2, h3, h4, h1⟩
    · have b1 : byt l 1 = 43 := by rw [← hl]; rfl
      have b2 : byt l 2 = 10 := by rw [← hl]; rfl
      have hh := hd_sign (l := l) (p := 1) (.inl b1) (by rw [b2]; omega)
      rw [b1] at hh
      obtain ⟨h1, h2, h3, h4⟩ := bare_end (l := l) (p := 1) (by rw [hh]; exact b2) (by omega)
      rw [hh] at h1
      exact ⟨2, hh, h2, h3, h4, h1⟩
  obtain ⟨e, hh, hbad, hhas, htr, ht⟩ := key
  have hx1 : ∃ tl, xs = (f 0).1 :: tl := by rw [← hxs]; exact rowsU_head f (m + 1) (by omega)
  obtain ⟨tl, hx1⟩ := hx1
  have hx2 : xs = rowsU f m ++ [(f m).1] ++ List.replicate (f m).2 [] := by rw [← hxs, rowsU]; simp
  have hxm : ∀ y ∈ xs, ∀ b ∈ y, b ≠ 10 := by
    intro y hy
    rw [← hxs] at hy
    rcases rowsU_mem f _ y hy with rfl | ⟨j, _, rfl⟩
    · intro b hb; cases hb
    · exact (hf j).2
  have htl : (hBk k).length < l.length := by omega
  have h10 : byt l (hBk k).length = 10 := by rw [← ht]; exact rowTo_off (by rw [ht]; exact htl)
  have hrf : rowFrom l ((hBk k).length + 1) = (hBk k).length + 1 := rowFrom_feed h10
  have hst : ¬ ((hBk k).length + 1 + (linesR x xs).length < l.length ∧ okB l x ((hBk k).length + 1 + (linesR x xs).length) = true) := by
    rcases hr with hr | hr
    · subst hr
      exact stop_end (by rw [hll]; simp)
    · have hfrom := (go_lines hx xs ((hBk k).length + 1) [] 0 0 rest hxm hdl hrf).2
      have hdd := drop_app hdl
      subst hr
      exact stop_row (row := [122]) (rest := []) (k := 0) ⟨hdd, by decide, hfrom⟩ (by decide) (fun j hj => by omega) (by decide) (by omega)
  have hmain := bloc_lines (l := l) (n := 0) (w := x) (g := (f m).2) (xs := xs) (tl := tl) (ys := rowsU f m) (x0 := (f 0).1) (y := (f m).1) (rest := rest) hs hh hbad ht htl hx (by omega) hxm hx1 (hf 0).1 h32 hx2 (hf m).1 hdl hst
  rw [hl, hmain, hfo, hhas, htr, want_is f m k hk]
  rfl
