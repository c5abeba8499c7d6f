/- Plain laws on texts: ends of rows, clean texts. No program in sight. -/
import Derived.Test.YtjfgcbikdibjeaaGreatDoorPSpot
import Derived.Lib.ReplaceLaws
import Derived.Lib.Strings
namespace Go.Proofs.YtjfgcbikdibjeaaGreatDoor
namespace U
open Go

/-! ### strings.ReplaceAll, byte by byte. -/
theorem index_cons_no {b : UInt8} {l o : List UInt8} (h : o.isPrefixOf (b :: l) = false) : Lib.index (b :: l) o = if Lib.index l o == -1 then -1 else Lib.index l o + 1 := by
  rw [Lib.index, if_neg (by rw [h]; decide)]
theorem index_cons_yes {s o : List UInt8} (hs : s ≠ []) (h : o.isPrefixOf s = true) : Lib.index s o = 0 := by
  cases s with
  | nil => exact absurd rfl hs
  | cons b l => rw [Lib.index, if_pos h]
theorem repl_nil (o n : List UInt8) (ho : o ≠ []) (hne : o ≠ n) : Lib.replaceAll [] o n = [] := by
  have hi : Lib.index [] o = -1 := by
    rw [Lib.index, if_neg]
    cases o with
    | nil => exact absurd rfl ho
    | cons a t => simp
  unfold Lib.replaceAll Lib.replace
  rw [if_neg (by simpa using hne), Lib.replaceNum, if_pos (Or.inl (by decide)), Lib.count_miss hi]
  rfl
theorem repl_eq (s o n : List UInt8) (hne : o ≠ n) : Lib.replaceAll s o n = Lib.replaceK o n (Lib.count s o) s := by
  unfold Lib.replaceAll Lib.replace
  rw [if_neg (by simpa using hne), Lib.replaceNum, if_pos (Or.inl (by decide))]
theorem repl_yes (s o n : List UInt8) (ho : o ≠ []) (hs : s ≠ []) (hne : o ≠ n) (h : o.isPrefixOf s = true) : Lib.replaceAll s o n = n ++ Lib.replaceAll (s.drop o.length) o n := by
  have hi : Lib.index s o = (0 : Nat) := index_cons_yes hs h
  rw [repl_eq s o n hne, repl_eq _ o n hne, Lib.count_hit ho hi, Nat.add_comm 1, Lib.replaceK_hit o n _ s 0 hi]
  simp
theorem repl_no (b : UInt8) (l o n : List UInt8) (ho : o ≠ []) (hne : o ≠ n) (h : o.isPrefixOf (b :: l) = false) : Lib.replaceAll (b :: l) o n = b :: Lib.replaceAll l o n := by
  have hi := index_cons_no h
  rw [repl_eq _ o n hne, repl_eq _ o n hne]
  have hg := Lib.index_ge l o
  by_cases hm : Lib.index l o = -1
  · rw [hm] at hi
    rw [Lib.count_miss (show Lib.index (b :: l) o = -1 by rw [hi]; rfl), Lib.count_miss hm]
    rfl
  · obtain ⟨i, hx⟩ : ∃ i : Nat, Lib.index l o = i := ⟨(Lib.index l o).toNat, by omega⟩
    have hx2 : Lib.index (b :: l) o = ((i + 1 : Nat) : Int) := by
      rw [hi, hx, if_neg (by simp)]; rfl
    rw [Lib.count_hit ho hx2, Lib.count_hit ho hx, Nat.add_comm 1, Nat.add_comm 1, Lib.replaceK_hit o n _ _ _ hx2, Lib.replaceK_hit o n _ _ _ hx]
    rw [show i + 1 + o.length = (i + o.length) + 1 by omega]
    simp

/-- LF for CR. -/
def feed (b : UInt8) : UInt8 := if b = 13 then 10 else b
/-- CR LF and CR are LF. -/
def norm : List UInt8 → List UInt8
  | [] => []
  | [b] => [feed b]
  | b :: c :: t => if b = 13 ∧ c = 10 then 10 :: norm t else feed b :: norm (c :: t)
/-- CR LF is LF. -/
def norm1 : List UInt8 → List UInt8
  | [] => []
  | [b] => [b]
  | b :: c :: t => if b = 13 ∧ c = 10 then 10 :: norm1 t else b :: norm1 (c :: t)
def norm2 (l : List UInt8) : List UInt8 := l.map feed

theorem repl1 (f : Nat) : ∀ l : List UInt8, l.length ≤ f → Lib.replaceAll l [13, 10] [10] = norm1 l := by
  induction f with
  | zero =>
    intro l hl
    have : l = [] := by cases l <;> simp_all
    subst this
    exact repl_nil _ _ (by decide) (by decide)
  | succ f ih =>
    intro l hl
    match l, hl with
    | [], _ => exact repl_nil _ _ (by decide) (by decide)
    | [b], _ =>
      rw [repl_no _ _ _ _ (by decide) (by decide) (by simp [List.isPrefixOf]), repl_nil _ _ (by decide) (by decide)]
      rfl
    | b :: c :: t, hl =>
      by_cases h : b = 13 ∧ c = 10
      · rw [norm1, if_pos h]
        obtain ⟨rfl, rfl⟩ := h
        rw [repl_yes _ _ _ (by decide) (by simp) (by decide) (by simp [List.isPrefixOf])]
        simp only [List.length_cons, List.length_nil, List.drop_succ_cons, List.drop_zero]
        rw [ih t (by simp at hl; omega)]
        rfl
      · rw [norm1, if_neg h, repl_no _ _ _ _ (by decide) (by decide) ?_, ih _ (by simpa using hl)]
        rw [Bool.eq_false_iff]
        intro hh
        simp [List.isPrefixOf] at hh
        exact h ⟨hh.1.symm, hh.2.symm⟩
theorem repl2 (l : List UInt8) : Lib.replaceAll l [13] [10] = norm2 l := by
  induction l with
  | nil => exact repl_nil _ _ (by decide) (by decide)
  | cons b l ih =>
    by_cases hb : b = 13
    · subst hb
      rw [repl_yes _ _ _ (by decide) (by simp) (by decide) (by simp [List.isPrefixOf])]
      simp only [List.length_cons, List.length_nil, List.drop_succ_cons, List.drop_zero]
      rw [ih]
      simp [norm2, feed]
    · rw [repl_no _ _ _ _ (by decide) (by decide) (by simp [List.isPrefixOf, Ne.symm hb]), ih]
      simp [norm2, feed, hb]
theorem norm12 (f : Nat) : ∀ l : List UInt8, l.length ≤ f → norm2 (norm1 l) = norm l := by
  induction f with
  | zero =>
    intro l hl
    have : l = [] := by cases l <;> simp_all
    subst this
    rfl
  | succ f ih =>
    intro l hl
    match l, hl with
    | [], _ => rfl
    | [b], _ => rfl
    | b :: c :: t, hl =>
      by_cases h : b = 13 ∧ c = 10
      · have := ih t (by simp at hl; omega)
        rw [norm1, if_pos h, norm, if_pos h, ← this]
        rfl
      · have := ih (c :: t) (by simpa using hl)
        rw [norm1, if_neg h, norm, if_neg h, ← this]
        rfl
theorem repl_norm (l : List UInt8) : Lib.replaceAll (Lib.replaceAll l [13, 10] [10]) [13] [10] = norm l := by
  rw [repl1 l.length l (Nat.le_refl _), repl2, norm12 l.length l (Nat.le_refl _)]

/-! ### What may stand in a text. -/
/-- Whether a number may stand in a text. -/
def printable (r : Int) : Bool := decide (r = 9 ∨ r = 10 ∨ (32 ≤ r ∧ r ≤ 126) ∨ r = 133 ∨ (r ≠ 65279 ∧ ((160 ≤ r ∧ r ≤ 55295) ∨ (57344 ≤ r ∧ r ≤ 65533) ∨ (65536 ≤ r ∧ r ≤ 1114111))))
/-- A unit that may not stand there. -/
def wrongU (u : Nat × Nat × Nat) : Bool := (u.2.1 == 65533 && u.2.2 == 1) || (u.2.1 != 13 && !printable u.2.1)
def wrongOf (us : List (Nat × Nat × Nat)) : Int := match us.find? wrongU with | some u => (u.1 : Int) | none => -1
/-- The place of the first byte that may not stand there; -1. -/
def wrong (l : List UInt8) : Int := wrongOf (units 0 l)
theorem wrongOf_nil : wrongOf [] = -1 := rfl
theorem wrongOf_yes (u : Nat × Nat × Nat) (us : List (Nat × Nat × Nat)) (h : wrongU u = true) : wrongOf (u :: us) = u.1 := by
  simp [wrongOf, List.find?_cons_of_pos h]
theorem wrongOf_no (u : Nat × Nat × Nat) (us : List (Nat × Nat × Nat)) (h : wrongU u = false) : wrongOf (u :: us) = wrongOf us := by
  unfold wrongOf
  rw [List.find?_cons_of_neg (by simp [h])]
theorem wrongOf_le (l : List UInt8) (pos : Nat) : wrongOf (units pos l) < pos + l.length ∨ wrongOf (units pos l) = -1 := by
  unfold wrongOf
  split
  · rename_i u hu
    left
    have := unitsF_at l.length l pos u (List.mem_of_find?_eq_some hu)
    omega
  · right; rfl
theorem wrong_ge (l : List UInt8) : -1 ≤ wrong l := by
  unfold wrong wrongOf
  split <;> omega
theorem wrong_lt (l : List UInt8) : wrong l < l.length := by
  have := wrongOf_le l 0
  unfold wrong
  omega
theorem unitsF_ge (f : Nat) : ∀ (l : List UInt8) (pos : Nat), ∀ u ∈ unitsF f pos l, pos ≤ u.1 := by
  induction f with
  | zero => intro l pos u hu; simp [unitsF] at hu
  | succ f ih =>
    intro l pos u hu
    cases l with
    | nil => simp [unitsF] at hu
    | cons b t =>
      simp only [unitsF, List.mem_cons] at hu
      rcases hu with rfl | hu
      · exact Nat.le_refl _
      · have := ih _ _ u hu
        omega
theorem placeOf_ge (pos : Nat) (l : List UInt8) : placeOf (units pos l) = -1 ∨ (pos : Int) ≤ placeOf (units pos l) := by
  unfold placeOf
  split
  · rename_i u hu
    right
    have := unitsF_ge l.length l pos u (List.mem_of_find?_eq_some hu)
    omega
  · left; rfl

/-- The mark of UTF-8. -/
def bom : List UInt8 := [239, 187, 191]
/-- A text of bytes: the text, a place, an error's number. -/
def clean (l : List UInt8) : List UInt8 × Int × Int :=
  if 65536 < l.length then ([], 0, 2)
  else if 0 ≤ wrong (Lib.trimPrefix l bom) then ([], wrong (Lib.trimPrefix l bom) + l.length - (Lib.trimPrefix l bom).length, 3)
  else (norm (Lib.trimPrefix l bom), 0, 0)
theorem trim_le (l : List UInt8) : (Lib.trimPrefix l bom).length ≤ l.length := by
  unfold Lib.trimPrefix
  split
  · rw [List.length_drop]; omega
  · exact Nat.le_refl _
theorem norm_le (f : Nat) : ∀ l : List UInt8, l.length ≤ f → (norm l).length ≤ l.length := by
  induction f with
  | zero =>
    intro l hl
    have : l = [] := by cases l <;> simp_all
    subst this
    exact Nat.le_refl _
  | succ f ih =>
    intro l hl
    match l, hl with
    | [], _ => exact Nat.le_refl _
    | [b], _ => exact Nat.le_refl _
    | b :: c :: t, hl =>
      rw [norm]
      split
      · have := ih t (by simp at hl; omega)
        simp; omega
      · have := ih (c :: t) (by simpa using hl)
        simp at this ⊢; omega
theorem norm1_le (f : Nat) : ∀ l : List UInt8, l.length ≤ f → (norm1 l).length ≤ l.length := by
  induction f with
  | zero =>
    intro l hl
    have : l = [] := by cases l <;> simp_all
    subst this
    exact Nat.le_refl _
  | succ f ih =>
    intro l hl
    match l, hl with
    | [], _ => exact Nat.le_refl _
    | [b], _ => exact Nat.le_refl _
    | b :: c :: t, hl =>
      rw [norm1]
      split
      · have := ih t (by simp at hl; omega)
        simp; omega
      · have := ih (c :: t) (by simpa using hl)
        simp at this ⊢; omega

theorem norm_cons {b : UInt8} (h : b ≠ 13) (m : List UInt8) : norm (b :: m) = b :: norm m := by
  cases m with
  | nil => simp [norm, feed, h]
  | cons c t => rw [norm, if_neg (fun hh => h hh.1)]; simp [feed, h]
theorem norm_no (m : List UInt8) : ∀ u : List UInt8, (∀ x ∈ u, x ≠ 13) → norm (u ++ m) = u ++ norm m := by
  intro u
  induction u with
  | nil => intro _; rfl
  | cons b u ih =>
    intro h
    rw [List.cons_append, norm_cons (h b (List.mem_cons_self ..)), ih (fun x hx => h x (List.mem_cons_of_mem _ hx))]
    rfl
theorem dec_byte (m : List UInt8) (c : Nat) (hc : c < 128) (h : byt m 0 = c) : dec m = (c, 1) := by rw [dec_one m (by omega), h]
/-- Of a unit's bytes none but the first is one of ASCII. -/
theorem unit_no (m : List UInt8) (c : UInt8) (hc : c.toNat < 128) (hne : m ≠ []) (h : byt m 0 ≠ c.toNat) : ∀ x ∈ m.take (dec m).2, x ≠ c := by
  intro x hx hxc
  subst hxc
  obtain ⟨i, hi, hb⟩ := byt_mem hx
  rw [List.length_take] at hi
  rw [byt_take _ _ _ (by omega)] at hb
  have hi0 : i ≠ 0 := by rintro rfl; exact h hb
  cases hbad : bad m with
  | true =>
    rw [dec_bad hbad] at hi
    simp only [] at hi
    omega
  | false =>
    have he := encR_dec m hne hbad
    have hv := dec_valid m
    by_cases h128 : (dec m).1 < 128
    · have hl1 : (Lib.encodeRune ((dec m).1 : Int)).length = 1 := by
        unfold Lib.encodeRune; rw [Lib.encodeRuneZ_one (by omega) (by omega)]; rfl
      rw [he, List.length_take] at hl1
      omega
    · have hh := (enc_head (dec m).1 (by omega) hv).2 i (by omega) (by rw [he, List.length_take]; omega)
      rw [he, byt_take _ _ _ (by omega), hb] at hh
      omega
theorem drop_cons (l : List UInt8) (k : Nat) (h : k < l.length) : l.drop k = l[k]'h :: l.drop (k + 1) := List.drop_eq_getElem_cons h
theorem get_byt (l : List UInt8) (k : Nat) (h : k < l.length) (c : UInt8) : l[k]'h = c ↔ byt l k = c.toNat := by
  rw [← byt_get l k h]
  exact ⟨fun hh => by rw [hh], fun hh => UInt8.toNat.inj hh⟩
theorem drop_ne' {l : List UInt8} {q : Nat} (h : q < l.length) : l.drop q ≠ [] := by
  intro hh; have := congrArg List.length hh; simp at this; omega
theorem norm_crlf {l : List UInt8} {k : Nat} (h : k + 1 < l.length) (h1 : byt l k = 13) (h2 : byt l (k + 1) = 10) : norm (l.drop k) = 10 :: norm (l.drop (k + 2)) := by
  rw [drop_cons l k (by omega), drop_cons l (k + 1) h, norm, if_pos ⟨(get_byt l k (by omega) 13).2 h1, (get_byt l (k + 1) h 10).2 h2⟩]
theorem norm_cr {l : List UInt8} {k : Nat} (h : k < l.length) (h1 : byt l k = 13) (h2 : ¬ (k + 1 < l.length ∧ byt l (k + 1) = 10)) : norm (l.drop k) = 10 :: norm (l.drop (k + 1)) := by
  have hk := (get_byt l k h 13).2 h1
  rw [drop_cons l k h, hk]
  by_cases h3 : k + 1 < l.length
  · rw [drop_cons l (k + 1) h3, norm, if_neg (fun hh => h2 ⟨h3, (get_byt l (k + 1) h3 10).1 hh.2⟩)]
    rfl
  · rw [List.drop_eq_nil_of_le (by omega)]
    rfl
theorem norm_unit {l : List UInt8} {k n : Nat} (h : k < l.length) (h1 : byt l k ≠ 13) (hn : (dec (l.drop k)).2 = n) : norm (l.drop k) = (l.drop k).take n ++ norm (l.drop (k + n)) := by
  have := unit_no (l.drop k) 13 (by decide) (drop_ne' h) (by rw [byt_drop, Nat.add_zero]; exact h1)
  rw [hn] at this
  have h2 := norm_no (l.drop (k + n)) _ this
  rw [← h2, ← List.drop_drop, List.take_append_drop]
theorem wrong_byte {l : List UInt8} {k c : Nat} (h : k < l.length) (hc : c = 13 ∨ c = 10) (h1 : byt l k = c) : wrongOf (units k (l.drop k)) = wrongOf (units (k + 1) (l.drop (k + 1))) := by
  have hd : dec (l.drop k) = (c, 1) := dec_byte _ c (by omega) (by rw [byt_drop, Nat.add_zero]; exact h1)
  rw [units_cons k _ (drop_ne' h), hd, List.drop_drop, wrongOf_no]
  rcases hc with rfl | rfl
  · exact (show wrongU (k, 13, 1) = wrongU (0, 13, 1) from rfl).trans (by decide)
  · exact (show wrongU (k, 10, 1) = wrongU (0, 10, 1) from rfl).trans (by decide)
theorem wrong_shift (l : List UInt8) (d : Nat) : wrongOf (units d l) = if 0 ≤ wrong l then wrong l + d else -1 := by
  unfold wrong
  rw [units_shift l d]
  generalize units 0 l = us
  induction us with
  | nil => rfl
  | cons u us ih =>
    cases hb : wrongU u with
    | true =>
      rw [List.map_cons, wrongOf_yes u _ hb, wrongOf_yes (d + u.1, u.2) _ hb, if_pos (by omega)]
      simp only []
      omega
    | false => rw [List.map_cons, wrongOf_no u _ hb, wrongOf_no (d + u.1, u.2) _ hb, ih]
/-- The answer by what is left when the mark is cut off. -/
theorem clean_by {l : List UInt8} {d : Nat} {W : Int} (hl : ¬ 65536 < l.length) (hd : d ≤ l.length) (ht : Lib.trimPrefix l bom = l.drop d) (hW : wrongOf (units d (l.drop d)) = W) :
    clean l = if 0 ≤ W then ([], W, 3) else (norm (l.drop d), 0, 0) := by
  rw [wrong_shift] at hW
  rw [clean, if_neg hl, ht]
  by_cases h : 0 ≤ wrong (l.drop d)
  · rw [if_pos h] at hW
    rw [if_pos h, if_pos (by omega), ← hW, List.length_drop]
    congr 2
    omega
  · rw [if_neg h] at hW
    rw [if_neg h, ← hW, if_neg (by omega)]
theorem trim_by (l : List UInt8) : ∃ d : Nat, d ≤ l.length ∧ Lib.trimPrefix l bom = l.drop d ∧ ((d = 0 ∧ l.length < 3) ∨ (d = 0 ∧ 3 ≤ l.length ∧ (l.take 3 == [239, 187, 191]) = false) ∨ (d = 3 ∧ 3 ≤ l.length ∧ (l.take 3 == [239, 187, 191]) = true)) := by
  have h := Lib.hasPrefix_of_take l bom
  have hb : bom.length = 3 := rfl
  rw [hb] at h
  unfold Lib.trimPrefix
  rw [← h]
  by_cases h3 : 3 ≤ l.length
  · rw [decide_eq_true h3, Bool.true_and]
    cases ht : (l.take 3 == bom) with
    | true => exact ⟨3, h3, rfl, .inr (.inr ⟨rfl, h3, ht⟩)⟩
    | false => exact ⟨0, by omega, rfl, .inr (.inl ⟨rfl, h3, ht⟩)⟩
  · rw [decide_eq_false h3, Bool.false_and]
    exact ⟨0, by omega, rfl, .inl ⟨rfl, by omega⟩⟩
end U
end Go.Proofs.YtjfgcbikdibjeaaGreatDoor
