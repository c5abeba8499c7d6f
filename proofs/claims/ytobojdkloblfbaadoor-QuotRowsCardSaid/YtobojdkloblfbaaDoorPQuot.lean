/- Quoted scalars as lists: what a reader comes to, and its rows as one text. -/
import Derived.Test.YtobojdkloblfbaaDoorPRows
import Derived.Test.YtobojdkloblfbaaDoorPEsca
import Derived.Test.YtobojdkloblfbaaDoorPNote
namespace Go.Proofs.YtobojdkloblfbaaDoor
namespace U
open Go

/-- A row: its text, how much of it stays, whether a backslash ends it. -/
abbrev QR := List UInt8 × Nat × Bool
abbrev QRes := Int × Nat × List QR
def trimQ (c : QR) : QR := if c.2.2 then c else (c.1.take c.2.1 ++ cutW (c.1.drop c.2.1), c.2.1, false)
def newQ : QR := ([], 0, false)
def encR (r : Int) : List UInt8 := Lib.encodeRune r
def afterQ (l : List UInt8) (p : Nat) : Nat := p + 1 + run whN l (p + 1)
/-- The reader from a place on: the rows behind it, and the row it is in. -/
def scF (l : List UInt8) (n : Int) (q : Nat) : Nat → Nat → List QR → QR → QRes
  | 0, p, _, _ => (5, p, [])
  | f + 1, p, es, c =>
    if l.length ≤ p then (5, p, [])
    else if byt l p = 10 then
      if kindM l (p + 1) = 3 ∨ kindM l (p + 1) = 4 then (5, p + 1, [])
      else if kindM l (p + 1) = 1 ∨ n < (inM l (p + 1) : Int) then scF l n q f (afterQ l p) (es ++ [trimQ c]) newQ
      else (5, afterQ l p, [])
    else if byt l p = 92 ∧ q = 34 then
      if byt l (p + 1) = 10 then scF l n q f (p + 1) es (c.1, c.2.1, true)
      else if (escM l p).2.2 = 0 then scF l n q f (escM l p).2.1.toNat es (c.1 ++ encR (escM l p).1, (c.1 ++ encR (escM l p).1).length, c.2.2)
      else ((escM l p).2.2, p, [])
    else if byt l p ≠ q then scF l n q f (p + 1) es (c.1 ++ [(byt l p).toUInt8], c.2.1, c.2.2)
    else if q = 39 ∧ byt l (p + 1) = 39 then scF l n q f (p + 2) es (c.1 ++ [39], c.2.1, c.2.2)
    else (0, p + 1, es ++ [c])
def scM (l : List UInt8) (n : Int) (q p : Nat) : QRes := scF l n q (l.length + 1 - p) p [] newQ

/-! ### Rows made one text. -/
def flowF : List (List UInt8) → Bool → Nat → List UInt8
  | [], _, _ => []
  | x :: t, first, b => if x = [] ∧ first = false ∧ t ≠ [] then flowF t false (b + 1) else (if first then [] else if b = 0 then [32] else List.replicate b 10) ++ x ++ flowF t false 0
def flowM (xs : List (List UInt8)) : List UInt8 := flowF xs true 0
def jnF : List QR → Bool → Nat → List (List UInt8) → List UInt8 → List UInt8
  | [], _, _, part, out => out ++ flowM part
  | x :: t, tied, b, part, out =>
    if tied = true ∧ x.1 = [] ∧ x.2.2 = false ∧ t ≠ [] then jnF t true (b + 1) part out
    else if x.2.2 = true then jnF t true 0 [] ((if tied then out ++ List.replicate b 10 else out) ++ flowM (part ++ [x.1]))
    else jnF t false 0 (part ++ [x.1]) (if tied then out ++ List.replicate b 10 else out)
def joinQ (rs : List QR) : List UInt8 := jnF rs false 0 [] []
/-- The quoted scalar at a place: its text, where it ends, whether it is one row, what is wrong. -/
def quotM (l : List UInt8) (a n : Int) : List UInt8 × Int × Bool × Int :=
  if a < 0 ∨ (l.length : Int) ≤ a ∨ ¬ (byt l a.toNat = 39 ∨ byt l a.toNat = 34) then ([], a, false, 5)
  else match scM l n (byt l a.toNat) (a.toNat + 1) with
    | (e, p, rs) => if e = 0 then (joinQ rs, (p : Int), decide (rs.length = 1), 0) else ([], (p : Int), false, e)

theorem esc_to {l : List UInt8} {p : Nat} (h : (escM l p).2.2 = 0) : ∃ t : Nat, (escM l p).2.1 = (t : Int) ∧ p + 2 ≤ t ∧ t ≤ l.length ∧ byt l p = 92 := by
  unfold escM at h ⊢
  by_cases h1 : (p : Int) < 0 ∨ (l.length : Int) ≤ p + 1 ∨ byt l ((p : Int)).toNat ≠ 92
  · rw [if_pos h1] at h; cases h
  · rw [if_neg h1] at h ⊢
    rw [show ((p : Int)).toNat = p from rfl] at h h1 ⊢
    have h92 : byt l p = 92 := by
      rcases Nat.decEq (byt l p) 92 with h2 | h2
      · exact absurd (.inr (.inr h2)) h1
      · exact h2
    cases hs : shortM (byt l (p + 1)) with
    | some r => exact ⟨p + 2, by simp, Nat.le_refl _, by omega, h92⟩
    | none =>
      rw [hs] at h
      simp only at h ⊢
      by_cases h2 : digM (byt l (p + 1)) = 0 ∨ (l.length : Int) < (p : Int) + 2 + digM (byt l (p + 1))
      · rw [if_pos h2] at h; cases h
      · rw [if_neg h2] at h ⊢
        cases hh : hexO ((l.drop (p + 2)).take (digM (byt l (p + 1)))) with
        | none => rw [hh] at h; cases h
        | some r => exact ⟨p + 2 + digM (byt l (p + 1)), by simp, by omega, by omega, h92⟩
theorem esc_err (l : List UInt8) (a : Int) : (escM l a).2.2 = 0 ∨ (escM l a).2.2 = 5 := by
  unfold escM
  split
  · exact .inr rfl
  · split
    · exact .inl rfl
    · split
      · exact .inr rfl
      · split
        · exact .inl rfl
        · exact .inr rfl
theorem after_le {l : List UInt8} {p : Nat} (h : p < l.length) : afterQ l p ≤ l.length := by
  have := run_le whN l (p + 1)
  unfold afterQ
  omega
theorem after_gt (l : List UInt8) (p : Nat) : p < afterQ l p := by unfold afterQ; omega
/-- What it comes to, however much fuel there is. -/
def Sc (l : List UInt8) (n : Int) (q p : Nat) (es : List QR) (c : QR) (R : QRes) : Prop := ∀ f, l.length < f + p → scF l n q f p es c = R
section
variable {l : List UInt8} {n : Int} {q p : Nat} {es : List QR} {c : QR} {R : QRes}
theorem sc_step (h : ∀ f, l.length < f + 1 + p → scF l n q (f + 1) p es c = R) (hp : p ≤ l.length) : Sc l n q p es c R := by
  intro f hf
  obtain ⟨k, rfl⟩ : ∃ k, f = k + 1 := ⟨f - 1, by omega⟩
  exact h k hf
theorem sc_end (hp : p = l.length) : Sc l n q p es c (5, p, []) := sc_step (fun f _ => by rw [scF, if_pos (by omega)]) (by omega)
theorem sc_mark (hp : p < l.length) (h10 : byt l p = 10) (hk : kindM l (p + 1) = 3 ∨ kindM l (p + 1) = 4) : Sc l n q p es c (5, p + 1, []) :=
  sc_step (fun f _ => by rw [scF, if_neg (by omega), if_pos h10, if_pos hk]) (by omega)
theorem sc_out (hp : p < l.length) (h10 : byt l p = 10) (hk : ¬ (kindM l (p + 1) = 3 ∨ kindM l (p + 1) = 4)) (hn : ¬ (kindM l (p + 1) = 1 ∨ n < (inM l (p + 1) : Int))) : Sc l n q p es c (5, afterQ l p, []) :=
  sc_step (fun f _ => by rw [scF, if_neg (by omega), if_pos h10, if_neg hk, if_neg hn]) (by omega)
theorem sc_feed (hp : p < l.length) (h10 : byt l p = 10) (hk : ¬ (kindM l (p + 1) = 3 ∨ kindM l (p + 1) = 4)) (hn : kindM l (p + 1) = 1 ∨ n < (inM l (p + 1) : Int)) (h : Sc l n q (afterQ l p) (es ++ [trimQ c]) newQ R) : Sc l n q p es c R :=
  sc_step (fun f hf => by rw [scF, if_neg (by omega), if_pos h10, if_neg hk, if_pos hn]; exact h f (by have := after_gt l p; omega)) (by omega)
theorem sc_tie (hp : p < l.length) (h92 : byt l p = 92) (hq : q = 34) (h10 : byt l (p + 1) = 10) (h : Sc l n q (p + 1) es (c.1, c.2.1, true) R) : Sc l n q p es c R :=
  sc_step (fun f hf => by rw [scF, if_neg (by omega), if_neg (by omega), if_pos ⟨h92, hq⟩, if_pos h10]; exact h f (by omega)) (by omega)
theorem sc_esc (hp : p < l.length) (h92 : byt l p = 92) (hq : q = 34) (h10 : byt l (p + 1) ≠ 10) {r : Int} {t : Nat} (he : escM l p = (r, (t : Int), 0)) (h : Sc l n q t es (c.1 ++ encR r, (c.1 ++ encR r).length, c.2.2) R) : Sc l n q p es c R :=
  sc_step (fun f hf => by
    obtain ⟨t', h1, h2, h3, _⟩ := esc_to (l := l) (p := p) (by rw [he])
    rw [he] at h1
    have h1 : t = t' := Int.ofNat.inj h1
    rw [scF, if_neg (by omega), if_neg (by omega), if_pos ⟨h92, hq⟩, if_neg h10, he, if_pos rfl]
    exact h f (by omega)) (by omega)
theorem sc_bad (hp : p < l.length) (h92 : byt l p = 92) (hq : q = 34) (h10 : byt l (p + 1) ≠ 10) (he : (escM l p).2.2 = 5) : Sc l n q p es c (5, p, []) :=
  sc_step (fun f hf => by
    rw [scF, if_neg (by omega), if_neg (by omega), if_pos ⟨h92, hq⟩, if_neg h10, he, if_neg (by decide)]) (by omega)
theorem sc_byte (hp : p < l.length) (h10 : byt l p ≠ 10) (h92 : ¬ (byt l p = 92 ∧ q = 34)) (hq : byt l p ≠ q) (h : Sc l n q (p + 1) es (c.1 ++ [(byt l p).toUInt8], c.2.1, c.2.2) R) : Sc l n q p es c R :=
  sc_step (fun f hf => by rw [scF, if_neg (by omega), if_neg h10, if_neg h92, if_pos hq]; exact h f (by omega)) (by omega)
theorem sc_two (hp : p < l.length) (h39 : byt l p = 39) (hq : q = 39) (h2 : byt l (p + 1) = 39) (h : Sc l n q (p + 2) es (c.1 ++ [39], c.2.1, c.2.2) R) : Sc l n q p es c R :=
  sc_step (fun f hf => by rw [scF, if_neg (by omega), if_neg (by omega), if_neg (by omega), if_neg (by omega), if_pos ⟨hq, h2⟩]; exact h f (by omega)) (by omega)
theorem sc_done (hp : p < l.length) (h10 : byt l p ≠ 10) (hq : byt l p = q) (h2 : ¬ (q = 39 ∧ byt l (p + 1) = 39)) : Sc l n q p es c (0, p + 1, es ++ [c]) :=
  sc_step (fun f hf => by rw [scF, if_neg (by omega), if_neg h10, if_neg (by omega), if_neg (by omega), if_neg h2]) (by omega)
theorem sc_is (h : Sc l n q p [] newQ R) (hp : p ≤ l.length) : scM l n q p = R := h _ (by omega)
end
/-- A byte of a text. -/
theorem byt_u8 (l : List UInt8) (p : Nat) (h : p < l.length) : (byt l p).toUInt8 = l[p]'h := by
  unfold byt
  simp [h]
theorem flow_one (x : List UInt8) : flowM [x] = x := by simp [flowM, flowF]
theorem join_one (x : List UInt8) (k : Nat) : joinQ [(x, k, false)] = x := by
  unfold joinQ
  rw [jnF, if_neg (by simp), if_neg (by simp)]
  simp [jnF, flow_one]
end U
end Go.Proofs.YtobojdkloblfbaaDoor
