/- Plain laws on numbers' texts. No program in sight. -/
import Derived.Test.YtjfgcbikdibjeaaGreatDoorPCore
namespace Go.Proofs.YtjfgcbikdibjeaaGreatDoor
namespace U
open Go

theorem num_app {d r : List UInt8} (hd : d.all dec10 = true) (hr : ∀ c t, r = c :: t → dec10 c = false) : num (d ++ r) = numR d.isEmpty r := by
  have h1 : ∀ a ∈ d, dec10 a = true := by simpa using hd
  have h2 : r.takeWhile dec10 = [] := by
    cases r with
    | nil => rfl
    | cons c t => simp [hr c t rfl]
  have h3 : r.dropWhile dec10 = r := by
    cases r with
    | nil => rfl
    | cons c t => simp [hr c t rfl]
  unfold num
  rw [List.takeWhile_append_of_pos h1, List.dropWhile_append_of_pos h1, h2, h3, List.append_nil]
/-- How a number's text begins. -/
def numHead : List UInt8 → Bool
  | [] => false
  | [b] => dec10 b || b == 43 || b == 45
  | b :: c :: _ => dec10 b || b == 43 || b == 45 || (b == 46 && dec10 c)
theorem heads_no : ∀ x ∈ nulls ++ bools ++ nans, numHead x = false := by decide
theorem coreR_head {s : List UInt8} (h : numHead s = true) (hb : basesR s = false) : coreR s = restR s := by
  have hn := heads_no s
  have h1 : nulls.contains s = false := by
    rw [Bool.eq_false_iff]
    intro hh
    have := hn (by simp only [List.mem_append]; exact .inl (.inl (by simpa using hh)))
    rw [this] at h
    cases h
  have h2 : bools.contains s = false := by
    rw [Bool.eq_false_iff]
    intro hh
    have := hn (by simp only [List.mem_append]; exact .inl (.inr (by simpa using hh)))
    rw [this] at h
    cases h
  have h3 : nans.contains s = false := by
    rw [Bool.eq_false_iff]
    intro hh
    have := hn (by simp only [List.mem_append]; exact .inr (by simpa using hh))
    rw [this] at h
    cases h
  unfold coreR
  rw [h1, h2, h3, hb]
  rfl
/-- A sign or none; digits, or a point and a digit; what stands behind. -/
structure Form (sg d r : List UInt8) : Prop where
  sign : sg = [] ∨ sg = [43] ∨ sg = [45]
  digs : d.all dec10 = true
  some' : d ≠ [] ∨ ∃ c t, r = 46 :: c :: t ∧ dec10 c = true
  head : ∀ c t, r = c :: t → dec10 c = false ∧ ((c ≠ 111 ∧ c ≠ 120) ∨ t = [])
theorem dec10_no {b : UInt8} (h : dec10 b = true) : b ≠ 43 ∧ b ≠ 45 ∧ b ≠ 46 ∧ b ≠ 111 ∧ b ≠ 120 ∧ b ≠ 105 ∧ b ≠ 73 := by
  refine ⟨?_, ?_, ?_, ?_, ?_, ?_, ?_⟩ <;> (rintro rfl; revert h; decide)
theorem Form.body {sg d r : List UInt8} (h : Form sg d r) : ∃ b t, d ++ r = b :: t ∧ b ≠ 43 ∧ b ≠ 45 ∧ ((dec10 b = true ∧ d ≠ []) ∨ (b = 46 ∧ ∃ c u, t = c :: u ∧ dec10 c = true)) := by
  cases d with
  | nil =>
    rcases h.some' with hh | ⟨c, t, rfl, hc⟩
    · exact absurd rfl hh
    · exact ⟨46, c :: t, rfl, by decide, by decide, .inr ⟨rfl, c, t, rfl, hc⟩⟩
  | cons b t =>
    have hb : dec10 b = true := by have := h.digs; simp at this; exact this.1
    have := dec10_no hb
    exact ⟨b, t ++ r, rfl, this.1, this.2.1, .inl ⟨hb, by simp⟩⟩
theorem Form.unsign {sg d r : List UInt8} (h : Form sg d r) : unsign (sg ++ (d ++ r)) = d ++ r := by
  obtain ⟨b, t, hbt, h1, h2, _⟩ := h.body
  rcases h.sign with rfl | rfl | rfl
  · rw [hbt]; simp [U.unsign, h1, h2]
  · simp [U.unsign]
  · simp [U.unsign]
theorem Form.numHead {sg d r : List UInt8} (h : Form sg d r) : numHead (sg ++ (d ++ r)) = true := by
  obtain ⟨b, t, hbt, _, _, h3⟩ := h.body
  rw [hbt]
  rcases h.sign with rfl | rfl | rfl
  · rcases h3 with ⟨hb, _⟩ | ⟨rfl, c, u, rfl, hc⟩
    · cases t <;> simp [U.numHead, hb]
    · simp [U.numHead, hc]
  · simp [U.numHead]
  · simp [U.numHead]
theorem Form.bases {sg d r : List UInt8} (h : Form sg d r) : basesR (sg ++ (d ++ r)) = false := by
  have key : ∀ c : UInt8, (c = 111 ∨ c = 120) → ∀ t, sg ++ (d ++ r) = 48 :: c :: t → t = [] := by
    intro c hc t ht
    have hs : sg = [] := by
      rcases h.sign with rfl | rfl | rfl
      · rfl
      · simp at ht
      · simp at ht
    subst hs
    simp only [List.nil_append] at ht
    match d, h.digs, h.some', ht with
    | [], _, h5, ht =>
      rcases h5 with h5 | ⟨e, u, rfl, _⟩
      · exact absurd rfl h5
      · simp at ht
    | [b], _, _, ht =>
      simp only [List.cons_append, List.nil_append, List.cons.injEq] at ht
      have := (h.head c t ht.2).2
      rcases this with ⟨h6, h7⟩ | h6
      · rcases hc with rfl | rfl
        · exact absurd rfl h6
        · exact absurd rfl h7
      · exact h6
    | b :: e :: u, h4, _, ht =>
      exfalso
      simp only [List.cons_append, List.cons.injEq] at ht
      simp at h4
      have := dec10_no h4.2.1
      rw [ht.2.1] at this
      rcases hc with rfl | rfl
      · exact this.2.2.2.1 rfl
      · exact this.2.2.2.2.1 rfl
  unfold basesR
  rw [Bool.or_eq_false_iff]
  constructor
  · cases hp : pre2 48 111 (sg ++ (d ++ r)) with
    | false => rfl
    | true =>
      obtain ⟨t, ht⟩ := pre2_form hp
      have := key 111 (.inl rfl) t ht
      subst this
      rw [ht]
      rfl
  · cases hp : pre2 48 120 (sg ++ (d ++ r)) with
    | false => rfl
    | true =>
      obtain ⟨t, ht⟩ := pre2_form hp
      have := key 120 (.inr rfl) t ht
      subst this
      rw [ht]
      rfl
theorem Form.infs {sg d r : List UInt8} (h : Form sg d r) : infs.contains (d ++ r) = false := by
  obtain ⟨b, t, hbt, _, _, h3⟩ := h.body
  rw [hbt, Bool.eq_false_iff]
  intro hh
  have hm : (b :: t) ∈ U.infs := by simpa using hh
  simp only [U.infs, List.mem_cons, List.cons.injEq, List.not_mem_nil, or_false] at hm
  rcases h3 with ⟨hb, _⟩ | ⟨rfl, c, u, rfl, hc⟩
  · have := dec10_no hb
    rcases hm with h4 | h4 | h4 <;> exact this.2.2.1 h4.1
  · have := dec10_no hc
    simp only [List.cons.injEq] at hm
    rcases hm with h4 | h4 | h4
    · exact this.2.2.2.2.2.1 h4.2.1
    · exact this.2.2.2.2.2.2 h4.2.1
    · exact this.2.2.2.2.2.2 h4.2.1
theorem Form.core {sg d r : List UInt8} (h : Form sg d r) : coreR (sg ++ (d ++ r)) = if numR d.isEmpty r = 1 then wInt else if numR d.isEmpty r = 2 then wFloat else wStr := by
  rw [coreR_head h.numHead h.bases, restR, h.unsign, h.infs, num_app h.digs (fun c t ht => (h.head c t ht).1)]
  rfl
theorem numR_point {a : Bool} {e v : List UInt8} (he : e.all dec10 = true) (hv : ∀ c t, v = c :: t → dec10 c = false) (h : a = false ∨ e ≠ []) : numR a (46 :: (e ++ v)) = expo 2 v := by
  have h1 : ∀ x ∈ e, dec10 x = true := by simpa using he
  have h2 : v.takeWhile dec10 = [] := by
    cases v with
    | nil => rfl
    | cons c t => simp [hv c t rfl]
  have h3 : v.dropWhile dec10 = v := by
    cases v with
    | nil => rfl
    | cons c t => simp [hv c t rfl]
  rw [numR_cons, if_pos rfl, List.takeWhile_append_of_pos h1, List.dropWhile_append_of_pos h1, h2, h3, List.append_nil]
  rw [if_neg]
  intro hh
  rw [Bool.and_eq_true] at hh
  rcases h with h | h
  · rw [h] at hh; exact absurd hh.1 (by decide)
  · cases e with
    | nil => exact h rfl
    | cons x y => exact absurd hh.2 (by simp)
theorem expo_pow {k : Nat} {c : UInt8} (hc : c = 101 ∨ c = 69) {sg d : List UInt8} (hs : sg = [] ∨ sg = [43] ∨ sg = [45]) (hd : d.all dec10 = true) (hne : d ≠ []) : expo k (c :: (sg ++ d)) = 2 ∧ ∀ w : UInt8, dec10 w = false → expo k (c :: (sg ++ d) ++ [w]) = 0 := by
  obtain ⟨b, t, rfl⟩ : ∃ b t, d = b :: t := by
    cases d with
    | nil => exact absurd rfl hne
    | cons b t => exact ⟨b, t, rfl⟩
  have hb : dec10 b = true := by simp at hd; exact hd.1
  have hn := dec10_no hb
  have hu : unsign (sg ++ b :: t) = b :: t := by
    rcases hs with rfl | rfl | rfl <;> simp [unsign, hn]
  constructor
  · rw [expo_cons, if_pos hc, hu, if_pos (by rw [allOf, hd]; rfl)]
  · intro w hw
    have hu2 : unsign (sg ++ b :: t ++ [w]) = b :: (t ++ [w]) := by
      rcases hs with rfl | rfl | rfl <;> simp [unsign, hn]
    rw [List.cons_append, expo_cons, if_pos hc, hu2, if_neg]
    simp [allOf, hw]
theorem expo_none (k : Nat) {w : UInt8} (h : w ≠ 101 ∧ w ≠ 69) : expo k [w] = 0 := by rw [expo_cons, if_neg (fun hh => hh.elim h.1 h.2)]
/-- A sign that stands behind, of no number. -/
def behind (w : UInt8) : Prop := dec10 w = false ∧ w ≠ 101 ∧ w ≠ 69 ∧ w ≠ 46
/-- The seven forms of numbers with a point or a power. -/
def formOf (d : List UInt8) (k : Nat) : List UInt8 :=
  if k = 0 then d ++ [46] else if k = 1 then d ++ 46 :: d else if k = 2 then 46 :: d else if k = 3 then d ++ 101 :: d else if k = 4 then d ++ 46 :: 69 :: 45 :: d else if k = 5 then d ++ 46 :: (d ++ 101 :: 43 :: d) else 46 :: (d ++ [101, 49])
theorem core_digits {sg d : List UInt8} (hs : sg = [] ∨ sg = [43] ∨ sg = [45]) (hd : d.all dec10 = true) (hne : d ≠ []) : coreR (sg ++ d) = wInt ∧ ∀ w : UInt8, behind w → coreR (sg ++ d ++ [w]) = wStr := by
  have he : d.isEmpty = false := by cases d with | nil => exact absurd rfl hne | cons b t => rfl
  constructor
  · have h := (Form.mk (r := []) hs hd (.inl hne) (fun c t ht => by cases ht)).core
    rw [List.append_nil, he] at h
    exact h
  · intro w hw
    have h := (Form.mk (r := [w]) hs hd (.inl hne) (fun c t ht => by cases ht; exact ⟨hw.1, .inr rfl⟩)).core
    rw [he, show numR false [w] = expo 1 [w] by rw [numR_cons, if_neg hw.2.2.2]; rfl, expo_none 1 ⟨hw.2.1, hw.2.2.1⟩] at h
    rw [List.append_assoc]
    exact h
theorem core_formOf {sg d : List UInt8} (hs : sg = [] ∨ sg = [43] ∨ sg = [45]) (hd : d.all dec10 = true) (hne : d ≠ []) (k : Nat) : coreR (sg ++ formOf d k) = wFloat ∧ ∀ w : UInt8, behind w → coreR (sg ++ formOf d k ++ [w]) = wStr := by
  have he : d.isEmpty = false := by cases d with | nil => exact absurd rfl hne | cons b t => rfl
  obtain ⟨b, t, hbt⟩ : ∃ b t, d = b :: t := by cases d with | nil => exact absurd rfl hne | cons b t => exact ⟨b, t, rfl⟩
  have hb : dec10 b = true := by rw [hbt] at hd; simp at hd; exact hd.1
  have key : ∀ (x r : List UInt8), x = d ∨ (x = [] ∧ ∃ u, r = 46 :: (d ++ u)) → (∀ c u, r = c :: u → dec10 c = false ∧ c ≠ 111 ∧ c ≠ 120) → numR x.isEmpty r = 2 → (∀ w, behind w → numR x.isEmpty (r ++ [w]) = 0) → r ≠ [] → coreR (sg ++ (x ++ r)) = wFloat ∧ ∀ w : UInt8, behind w → coreR (sg ++ (x ++ r) ++ [w]) = wStr := by
    intro x r hx hr h2 h0 hrn
    have hxd : x.all dec10 = true := by rcases hx with rfl | ⟨rfl, _⟩; exact hd; rfl
    have hso : ∀ z, x ≠ [] ∨ ∃ c t, r ++ z = 46 :: c :: t ∧ dec10 c = true := by
      intro z
      rcases hx with rfl | ⟨rfl, u, rfl⟩
      · exact .inl hne
      · exact .inr ⟨b, t ++ (u ++ z), by rw [hbt]; simp, hb⟩
    constructor
    · have h := (Form.mk (r := r) hs hxd (by simpa using hso []) (fun c u hc => ⟨(hr c u hc).1, .inl (hr c u hc).2⟩)).core
      rw [h, h2]; rfl
    · intro w hw
      have h := (Form.mk (r := r ++ [w]) hs hxd (hso [w]) (fun c u hc => by
        cases r with
        | nil => exact absurd rfl hrn
        | cons c' r' =>
          simp only [List.cons_append, List.cons.injEq] at hc
          obtain ⟨rfl, _⟩ := hc
          exact ⟨(hr _ _ rfl).1, .inl (hr _ _ rfl).2⟩)).core
      rw [h0 w hw] at h
      rw [List.append_assoc, List.append_assoc]
      exact h
  have hw0 : ∀ w : UInt8, behind w → ∀ c t, [w] = c :: t → dec10 c = false := fun w hw c t h => by cases h; exact hw.1
  unfold formOf
  split
  · refine key d [46] (.inl rfl) (fun c u h => by cases h; decide) ?_ ?_ (by simp)
    · rw [he]; exact numR_point (e := []) (v := []) rfl (fun c t h => by cases h) (.inl rfl)
    · intro w hw
      rw [he]
      exact (numR_point (e := []) (v := [w]) rfl (hw0 w hw) (.inl rfl)).trans (expo_none 2 ⟨hw.2.1, hw.2.2.1⟩)
  split
  · refine key d (46 :: d) (.inl rfl) (fun c u h => by cases h; decide) ?_ ?_ (by simp)
    · rw [he]
      have := numR_point (a := false) (e := d) (v := []) hd (fun c t h => by cases h) (.inl rfl)
      rwa [List.append_nil] at this
    · intro w hw
      rw [he]
      exact (numR_point (e := d) (v := [w]) hd (hw0 w hw) (.inl rfl)).trans (expo_none 2 ⟨hw.2.1, hw.2.2.1⟩)
  split
  · refine key [] (46 :: d) (.inr ⟨rfl, [], by rw [List.append_nil]⟩) (fun c u h => by cases h; decide) ?_ ?_ (by simp)
    · have := numR_point (a := true) (e := d) (v := []) hd (fun c t h => by cases h) (.inr hne)
      rwa [List.append_nil] at this
    · intro w hw
      exact (numR_point (e := d) (v := [w]) hd (hw0 w hw) (.inr hne)).trans (expo_none 2 ⟨hw.2.1, hw.2.2.1⟩)
  split
  · have h := expo_pow (k := 1) (c := 101) (.inl rfl) (sg := []) (.inl rfl) hd hne
    refine key d (101 :: d) (.inl rfl) (fun c u h => by cases h; decide) ?_ ?_ (by simp)
    · rw [he]; exact h.1
    · intro w hw
      rw [he]; exact h.2 w hw.1
  split
  · have h := expo_pow (k := 2) (c := 69) (.inr rfl) (sg := [45]) (.inr (.inr rfl)) hd hne
    have hv : ∀ z c t, 69 :: ([45] ++ d) ++ z = c :: t → dec10 c = false := fun z c t h => by cases h; decide
    refine key d (46 :: 69 :: 45 :: d) (.inl rfl) (fun c u h => by cases h; decide) ?_ ?_ (by simp)
    · rw [he]; exact (numR_point (e := []) (v := 69 :: ([45] ++ d)) rfl (by simpa using hv []) (.inl rfl)).trans h.1
    · intro w hw
      rw [he]; exact (numR_point (e := []) (v := 69 :: ([45] ++ d) ++ [w]) rfl (hv [w]) (.inl rfl)).trans (h.2 w hw.1)
  split
  · have h := expo_pow (k := 2) (c := 101) (.inl rfl) (sg := [43]) (.inr (.inl rfl)) hd hne
    have hv : ∀ z c t, 101 :: ([43] ++ d) ++ z = c :: t → dec10 c = false := fun z c t h => by cases h; decide
    refine key d (46 :: (d ++ 101 :: 43 :: d)) (.inl rfl) (fun c u h => by cases h; decide) ?_ ?_ (by simp)
    · rw [he]; exact (numR_point (e := d) (v := 101 :: ([43] ++ d)) hd (by simpa using hv []) (.inl rfl)).trans h.1
    · intro w hw
      rw [he, show 46 :: (d ++ 101 :: 43 :: d) ++ [w] = 46 :: (d ++ (101 :: ([43] ++ d) ++ [w])) by simp]
      exact (numR_point (e := d) (v := 101 :: ([43] ++ d) ++ [w]) hd (hv [w]) (.inl rfl)).trans (h.2 w hw.1)
  · have h := expo_pow (k := 2) (c := 101) (.inl rfl) (sg := []) (d := [49]) (.inl rfl) (by decide) (by simp)
    have hv : ∀ z c t, 101 :: ([] ++ [49]) ++ z = c :: t → dec10 c = false := fun z c t h => by cases h; decide
    refine key [] (46 :: (d ++ [101, 49])) (.inr ⟨rfl, [101, 49], rfl⟩) (fun c u h => by cases h; decide) ?_ ?_ (by simp)
    · exact (numR_point (e := d) (v := 101 :: ([] ++ [49])) hd (by simpa using hv []) (.inr hne)).trans h.1
    · intro w hw
      rw [show 46 :: (d ++ [101, 49]) ++ [w] = 46 :: (d ++ (101 :: ([] ++ [49]) ++ [w])) by simp]
      exact (numR_point (e := d) (v := 101 :: ([] ++ [49]) ++ [w]) hd (hv [w]) (.inr hne)).trans (h.2 w hw.1)
end U
end Go.Proofs.YtjfgcbikdibjeaaGreatDoor
