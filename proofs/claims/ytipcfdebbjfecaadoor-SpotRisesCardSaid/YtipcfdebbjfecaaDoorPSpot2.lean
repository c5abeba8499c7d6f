/- Plain laws on lines and columns of texts of code points. No program in sight. -/
import Derived.Test.YtipcfdebbjfecaaDoorPSpot
namespace Go.Proofs.YtipcfdebbjfecaaDoor
namespace U
open Go

/-- A place that begins a code point, or the end, of a text of code points. -/
def St (l : List UInt8) (q L C : Nat) : Prop := Sp l q L C ∧ placeOf (units q (l.drop q)) = -1
theorem St_zero {l : List UInt8} (h : place l = -1) : St l 0 1 1 := ⟨Sp_zero l, h⟩
theorem St_le {l : List UInt8} {q L C : Nat} (h : St l q L C) : q ≤ l.length := by
  obtain ⟨⟨_, f, k, _, _, _, h4, _⟩, _⟩ := h
  exact h4
theorem drop_ne {l : List UInt8} {q : Nat} (h : q < l.length) : l.drop q ≠ [] := by
  intro hh; have := congrArg List.length hh; simp at this; omega
theorem St_good {l : List UInt8} {q L C : Nat} (h : St l q L C) (hlt : q < l.length) : bad (l.drop q) = false := by
  have h2 := h.2
  rw [units_cons q _ (drop_ne hlt)] at h2
  cases hb : bad (l.drop q) with
  | false => rfl
  | true =>
    rw [placeOf_bad _ _ (by simpa [bad] using hb)] at h2
    simp only [] at h2
    omega
/-- What begins a code point is no byte of its inside. -/
theorem good_head {m : List UInt8} (hb : bad m = false) : byt m 0 / 64 ≠ 2 := by
  intro hh
  have h0 := byt_lt m 0
  have := dec_lone m (by omega) (by left; omega)
  rw [bad_of this] at hb
  simp at hb
theorem good_in {l : List UInt8} {q i : Nat} (hlt : q < l.length) (hb : bad (l.drop q) = false) (h1 : q < i) (h2 : i < q + (dec (l.drop q)).2) : byt l i / 64 = 2 := by
  have hne := drop_ne hlt
  have he := encR_dec (l.drop q) hne hb
  have hv := dec_valid (l.drop q)
  have hw := dec_w_le (l.drop q) hne
  by_cases h128 : (dec (l.drop q)).1 < 128
  · have hl1 : (Lib.encodeRune ((dec (l.drop q)).1 : Int)).length = 1 := by
      unfold Lib.encodeRune; rw [Lib.encodeRuneZ_one (by omega) (by omega)]; rfl
    rw [he, List.length_take] at hl1
    omega
  · have hh := (enc_head (dec (l.drop q)).1 (by omega) hv).2 (i - q) (by omega) (by rw [he, List.length_take]; omega)
    rw [he, byt_take _ _ _ (by omega), byt_drop, show q + (i - q) = i by omega] at hh
    omega
theorem St_next {l : List UInt8} {q L C n : Nat} (h : St l q L C) (hlt : q < l.length) (hn : (dec (l.drop q)).2 = n) :
    1 ≤ n ∧ q + n ≤ l.length ∧ ∃ L' C', St l (q + n) L' C' ∧ ((L' = L + 1 ∧ C' = 1) ∨ (L' = L ∧ C' = C + 1)) := by
  have hne := drop_ne hlt
  have hb := St_good h hlt
  have hw1 := dec_w_pos (l.drop q)
  have hw2 := dec_w_le (l.drop q) hne
  rw [List.length_drop] at hw2
  have hp := h.2
  rw [units_cons q _ hne, placeOf_good _ _ (by simpa [bad] using hb), hn, List.drop_drop] at hp
  refine ⟨by omega, by omega, ?_⟩
  by_cases h10 : byt l q = 10
  · have h1 : n = 1 := by
      rw [← hn, dec_one _ (by rw [byt_drop, Nat.add_zero]; omega)]
    subst h1
    exact ⟨_, _, ⟨Sp_feed h.1 hlt h10, hp⟩, .inl ⟨rfl, rfl⟩⟩
  · exact ⟨_, _, ⟨Sp_on h.1 hlt h10 hn, hp⟩, .inr ⟨rfl, rfl⟩⟩

theorem starts_lex (f : Nat) : ∀ {l : List UInt8} {q L C : Nat}, l.length - q ≤ f → St l q L C → ∀ p ∈ starts q l, p = q ∨ (L < (at' l p).1 ∨ L = (at' l p).1 ∧ C < (at' l p).2) := by
  induction f with
  | zero =>
    intro l q L C hf h p hp
    have := St_le h
    rw [starts_end (by omega)] at hp
    simp at hp
    left; omega
  | succ f ih =>
    intro l q L C hf h p hp
    have hle := St_le h
    by_cases hlt : q < l.length
    · obtain ⟨h1, h2, L', C', h3, h4⟩ := St_next h hlt rfl
      rw [starts_at hlt rfl, List.mem_cons] at hp
      rcases hp with rfl | hp
      · exact .inl rfl
      · right
        rcases ih (by omega) h3 p hp with rfl | h5
        · rw [Sp_at h3.1]
          simp only []
          omega
        · omega
    · rw [starts_end hlt] at hp
      simp at hp
      left; omega

theorem starts_find (f : Nat) : ∀ {l : List UInt8} {q L C : Nat}, l.length - q ≤ f → St l q L C → ∀ p ∈ starts q l, findAt l ((at' l p).1 : Int) ((at' l p).2 : Int) (starts q l) = ((p : Int), true) := by
  induction f with
  | zero =>
    intro l q L C hf h p hp
    have := St_le h
    rw [starts_end (by omega)] at hp ⊢
    simp only [List.mem_singleton] at hp
    subst hp
    exact findAt_hit _ _ _ _ _ rfl rfl
  | succ f ih =>
    intro l q L C hf h p hp
    have hle := St_le h
    by_cases hlt : q < l.length
    · obtain ⟨h1, h2, L', C', h3, h4⟩ := St_next h hlt rfl
      rw [starts_at hlt rfl] at hp ⊢
      rw [List.mem_cons] at hp
      by_cases hpq : p = q
      · subst hpq
        exact findAt_hit _ _ _ _ _ rfl rfl
      · have hp2 := hp.resolve_left hpq
        rw [findAt_miss _ _ _ _ _ (by
          rw [Sp_at h.1]
          intro hh
          simp only [] at hh
          rcases starts_lex (f + 1) hf h p (by rw [starts_at hlt rfl]; exact List.mem_cons_of_mem _ hp2) with h5 | h5
          · exact hpq h5
          · omega)]
        exact ih (by omega) h3 p hp2
    · rw [starts_end hlt] at hp ⊢
      simp only [List.mem_singleton] at hp
      subst hp
      exact findAt_hit _ _ _ _ _ rfl rfl

theorem starts_mem (f : Nat) : ∀ {l : List UInt8} {q L C : Nat}, l.length - q ≤ f → St l q L C → ∀ p, q ≤ p → p ≤ l.length → (p = l.length ∨ byt l p / 64 ≠ 2) → p ∈ starts q l := by
  induction f with
  | zero =>
    intro l q L C hf h p h1 h2 _
    have := St_le h
    rw [starts_end (by omega)]
    simp; omega
  | succ f ih =>
    intro l q L C hf h p hp1 hp2 hp3
    have hle := St_le h
    by_cases hlt : q < l.length
    · obtain ⟨h1, h2, L', C', h3, h4⟩ := St_next h hlt rfl
      rw [starts_at hlt rfl, List.mem_cons]
      by_cases hpq : p = q
      · exact .inl hpq
      · right
        refine ih (by omega) h3 p ?_ hp2 hp3
        rcases Nat.lt_or_ge p (q + (dec (l.drop q)).2) with hc | hc
        · exfalso
          have := good_in hlt (St_good h hlt) (show q < p by omega) hc
          rcases hp3 with hp3 | hp3
          · omega
          · exact hp3 this
        · exact hc
    · rw [starts_end hlt]
      simp; omega

/-- Each place that begins a code point, and the end, is found. -/
theorem back_at {l : List UInt8} (h : place l = -1) {p : Nat} (hp : p ≤ l.length) (hc : p = l.length ∨ byt l p / 64 ≠ 2) : back l ((at' l p).1 : Int) ((at' l p).2 : Int) = ((p : Int), true) :=
  starts_find l.length (by omega) (St_zero h) p (starts_mem l.length (by omega) (St_zero h) p (Nat.zero_le _) hp hc)
end U
end Go.Proofs.YtipcfdebbjfecaaDoor
