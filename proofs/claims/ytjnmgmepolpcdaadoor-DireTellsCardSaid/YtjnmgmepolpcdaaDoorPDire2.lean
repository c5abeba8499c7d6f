/- A directive told is read again. No program in sight. -/
import Derived.Test.YtjnmgmepolpcdaaDoorPDire
namespace Go.Proofs.YtjnmgmepolpcdaaDoor
namespace U
open Go

/-- Each blank has more White ahead of it. -/
def spread (e d : List UInt8) : List UInt8 := d.flatMap fun b => if b = 32 then e ++ [b] else [b]
theorem spread_cons (e : List UInt8) (b : UInt8) (d : List UInt8) : spread e (b :: d) = (if b = 32 then e ++ [b] else [b]) ++ spread e d := by simp [spread]
theorem spread_snoc (e : List UInt8) (b : UInt8) (d : List UInt8) : spread e (d ++ [b]) = spread e d ++ (if b = 32 then e ++ [b] else [b]) := by simp [spread]
theorem spread_len (e : List UInt8) (m : Nat) (he : e.length ≤ m) : ∀ d : List UInt8, (spread e d).length ≤ d.length * (m + 1) := by
  intro d
  induction d with
  | nil => simp [spread]
  | cons b d ih =>
    rw [spread_cons, List.length_append, List.length_cons, Nat.add_mul]
    have : (if b = 32 then e ++ [b] else [b]).length ≤ m + 1 := by split <;> simp; omega
    omega
theorem words_whites : ∀ (e : List UInt8), (∀ x ∈ e, wh x = true) → ∀ t, wordsF [] (e ++ t) = wordsF [] t := by
  intro e
  induction e with
  | nil => intro _ t; rfl
  | cons b e ih =>
    intro h t
    rw [List.cons_append, wordsF_yes _ _ _ (h b (by simp)), ih (fun x hx => h x (by simp [hx]))]
    rfl
theorem words_gap (e : List UInt8) (h : ∀ x ∈ e, wh x = true) (cur t : List UInt8) : wordsF cur (e ++ 32 :: t) = wordsF cur (32 :: t) := by
  cases e with
  | nil => rfl
  | cons b e =>
    rw [List.cons_append, wordsF_yes cur b _ (h b (by simp)), wordsF_yes cur 32 t (by decide), words_whites e (fun x hx => h x (by simp [hx])), wordsF_yes [] 32 t (by decide)]
    rfl
theorem words_spread (e : List UInt8) (h : ∀ x ∈ e, wh x = true) : ∀ (d cur r : List UInt8), wordsF cur (spread e d ++ r) = wordsF cur (d ++ r) := by
  intro d
  induction d with
  | nil => intro cur r; rfl
  | cons b d ih =>
    intro cur r
    rw [spread_cons]
    by_cases hb : b = 32
    · subst hb
      rw [if_pos rfl, List.append_assoc, List.append_assoc, List.cons_append, List.nil_append, words_gap e h, List.cons_append, wordsF_yes _ _ _ (by decide), wordsF_yes _ _ _ (by decide), ih]
    · rw [if_neg hb, List.append_assoc, List.cons_append, List.nil_append, List.cons_append, wordsF, wordsF]
      split
      · rw [ih]
      · rw [ih]
theorem words_end (e : List UInt8) (h : ∀ x ∈ e, wh x = true) : ∀ (d cur : List UInt8), wordsF cur (d ++ e) = wordsF cur d := by
  intro d
  induction d with
  | nil =>
    intro cur
    cases e with
    | nil => rfl
    | cons b e =>
      have := words_whites e (fun x hx => h x (by simp [hx])) []
      rw [List.append_nil] at this
      rw [List.nil_append, wordsF_yes _ _ _ (h b (by simp)), this, wordsF, wordsF]
      simp
  | cons b d ih =>
    intro cur
    rw [List.cons_append, wordsF, wordsF]
    split
    · rw [ih]
    · rw [ih]
/-- Words have no White, and are not nothing. -/
theorem words_black : ∀ (l cur : List UInt8), (∀ x ∈ cur, wh x = false) → ∀ u ∈ wordsF cur l, u ≠ [] ∧ ∀ x ∈ u, wh x = false := by
  intro l
  induction l with
  | nil =>
    intro cur hc u hu
    rw [wordsF] at hu
    cases cur with
    | nil => simp at hu
    | cons b t => simp at hu; subst hu; exact ⟨by simp, hc⟩
  | cons b t ih =>
    intro cur hc u hu
    rw [wordsF] at hu
    split at hu
    · split at hu
      · exact ih [] (by simp) u hu
      · rename_i hne
        rw [List.mem_cons] at hu
        rcases hu with rfl | hu
        · exact ⟨by rintro rfl; simp at hne, hc⟩
        · exact ih [] (by simp) u hu
    · rename_i hb
      refine ih (cur ++ [b]) (fun x hx => ?_) u hu
      rw [List.mem_append] at hx
      rcases hx with hx | hx
      · exact hc x hx
      · simp at hx; subst hx; simpa using hb
def joinB : List (List UInt8) → List UInt8
  | [] => []
  | [a] => a
  | a :: b :: t => a ++ 32 :: joinB (b :: t)
theorem words_join : ∀ ws : List (List UInt8), (∀ u ∈ ws, u ≠ [] ∧ ∀ x ∈ u, wh x = false) → wordsM (joinB ws) = ws := by
  intro ws
  induction ws with
  | nil => intro _; rfl
  | cons a ws ih =>
    intro h
    have ha := h a (by simp)
    have he : a.isEmpty = false := by cases a with | nil => exact absurd rfl ha.1 | cons b t => rfl
    have ih := ih (fun u hu => h u (by simp [hu]))
    unfold wordsM at *
    cases ws with
    | nil =>
      have := wordsF_no a ha.2 [] []
      rw [List.append_nil, List.nil_append] at this
      show wordsF [] a = [a]
      rw [this, wordsF, he]
      rfl
    | cons b t =>
      show wordsF [] (a ++ 32 :: joinB (b :: t)) = _
      rw [wordsF_no a ha.2, List.nil_append, wordsF_yes _ _ _ (by decide), he, ih]
      rfl
/-- No # stands behind White; p: does White stand ahead? -/
def noNote : Bool → List UInt8 → Prop
  | _, [] => True
  | p, b :: t => (b = 35 → p = false) ∧ noNote (wh b) t
theorem noNote_mono : ∀ {l : List UInt8} {p : Bool}, noNote p l → noNote false l := by
  intro l p h
  cases l with
  | nil => trivial
  | cons b t => exact ⟨fun _ => rfl, h.2⟩
theorem noNote_append : ∀ {l : List UInt8} {p : Bool} {m : List UInt8}, noNote p l → noNote true m → noNote p (l ++ m) := by
  intro l
  induction l with
  | nil =>
    intro p m _ h2
    cases p with
    | true => exact h2
    | false => exact noNote_mono h2
  | cons b t ih => intro p m h1 h2; exact ⟨h1.1, ih h1.2 h2⟩
theorem noNote_white : ∀ {e : List UInt8}, (∀ x ∈ e, wh x = true) → ∀ p, noNote p e := by
  intro e
  induction e with
  | nil => intro _ p; trivial
  | cons b t ih =>
    intro h p
    refine ⟨fun hb => ?_, ih (fun x hx => h x (by simp [hx])) _⟩
    have := h b (by simp)
    rw [hb] at this
    exact absurd this (by decide)
theorem noNote_gap {e : List UInt8} (h : ∀ x ∈ e, wh x = true) {t : List UInt8} (ht : noNote true t) : ∀ p, noNote p (e ++ 32 :: t) := by
  intro p
  refine noNote_append (noNote_white h p) ⟨fun hb => absurd hb (by decide), ?_⟩
  exact (show wh 32 = true by decide) ▸ ht
theorem noNote_spread {e : List UInt8} (h : ∀ x ∈ e, wh x = true) : ∀ {d : List UInt8} {p : Bool}, noNote p d → noNote p (spread e d) := by
  intro d
  induction d with
  | nil => intro p _; trivial
  | cons b d ih =>
    intro p hd
    rw [spread_cons]
    by_cases hb : b = 32
    · subst hb
      rw [if_pos rfl, List.append_assoc, List.cons_append, List.nil_append]
      have := ih hd.2
      rw [show wh 32 = true by decide] at this
      exact noNote_gap h this p
    · rw [if_neg hb]
      exact ⟨hd.1, ih hd.2⟩
theorem noNote_iff (l : List UInt8) : (∀ j, ¬ noteAt l j) ↔ noNote false l := by
  have key : ∀ (t : List UInt8) (k : Nat) (p : Bool), l.drop k = t → (p = true ↔ 1 ≤ k ∧ whN (byt l (k - 1)) = true) → ((∀ j, k ≤ j → ¬ noteAt l j) ↔ noNote p t) := by
    intro t
    induction t with
    | nil =>
      intro k p ht _
      have : l.length ≤ k := by
        have := congrArg List.length ht
        rw [List.length_drop, List.length_nil] at this
        omega
      exact ⟨fun _ => trivial, fun _ j hj hn => by have := hn.2.1; omega⟩
    | cons b t ih =>
      intro k p ht hp
      have hk : k < l.length := by
        rcases Nat.lt_or_ge k l.length with h | h
        · exact h
        · rw [List.drop_eq_nil_of_le h] at ht; cases ht
      rw [List.drop_eq_getElem_cons hk] at ht
      injection ht with h1 h2
      have hb : byt l k = b.toNat := by rw [← byt_get l k hk, h1]
      have ih := ih (k + 1) (wh b) h2 (by rw [Nat.add_sub_cancel, hb]; exact ⟨fun h => ⟨by omega, h⟩, fun h => h.2⟩)
      show _ ↔ (b = 35 → p = false) ∧ noNote (wh b) t
      rw [← ih]
      constructor
      · intro h
        refine ⟨fun hb35 => ?_, fun j hj => h j (by omega)⟩
        cases p with
        | false => rfl
        | true =>
          obtain ⟨h3, h4⟩ := hp.1 rfl
          exact absurd ⟨h3, hk, by rw [hb, hb35]; rfl, h4⟩ (h k (Nat.le_refl _))
      · rintro ⟨h3, h4⟩ j hj
        by_cases hjk : j = k
        · subst hjk
          intro hn
          have hb35 : b = 35 := UInt8.toNat.inj (by rw [← hb]; exact hn.2.2.1)
          have := h3 hb35
          rw [hp.2 ⟨hn.1, hn.2.2.2⟩] at this
          cases this
        · exact h4 j (by omega)
  have := key l 0 false (by rw [List.drop_zero]) (by simp)
  rw [← this]
  exact ⟨fun h j _ => h j, fun h j => h j (Nat.zero_le _)⟩
/-- Words behind White do not begin with a #. -/
theorem heads_note : ∀ (l cur : List UInt8) (p : Bool), noNote p l → (cur = [] → p = true) → (∀ u ∈ wordsF cur l, (cur ≠ [] ∧ ∃ v, u = cur ++ v) ∨ ∃ b t, u = b :: t ∧ b ≠ 35) := by
  intro l
  induction l with
  | nil =>
    intro cur p _ _ u hu
    rw [wordsF] at hu
    cases cur with
    | nil => simp at hu
    | cons b t => simp at hu; subst hu; exact .inl ⟨by simp, [], by simp⟩
  | cons b t ih =>
    intro cur p h hc u hu
    rw [wordsF] at hu
    split at hu
    · rename_i hb
      have hrec := ih [] true (by have := h.2; rw [hb] at this; exact this) (fun _ => rfl)
      have hno : ∀ u ∈ wordsF [] t, ∃ b t, u = b :: t ∧ b ≠ 35 := by
        intro u hu
        rcases hrec u hu with h1 | h1
        · exact absurd rfl h1.1
        · exact h1
      split at hu
      · exact .inr (hno u hu)
      · rename_i hne
        rw [List.mem_cons] at hu
        rcases hu with rfl | hu
        · exact .inl ⟨by rintro rfl; simp at hne, [], by simp⟩
        · exact .inr (hno u hu)
    · rename_i hb
      have hb' : wh b = false := by simpa using hb
      have hrec := ih (cur ++ [b]) (wh b) h.2 (by simp) u hu
      rcases hrec with ⟨_, v, rfl⟩ | h1
      · cases cur with
        | nil =>
          right
          refine ⟨b, v, rfl, fun hb35 => ?_⟩
          have := h.1 hb35
          rw [hc rfl] at this
          cases this
        | cons a u => exact .inl ⟨by simp, [b] ++ v, by simp⟩
      · exact .inr h1
theorem noNote_black : ∀ {u : List UInt8} {m : List UInt8} {p : Bool}, (∀ x ∈ u, wh x = false) → (p = false ∨ ∃ b t, u = b :: t ∧ b ≠ 35) → (u ≠ []) → noNote false m → noNote p (u ++ m) := by
  intro u
  induction u with
  | nil => intro m p _ _ h _; exact absurd rfl h
  | cons b u ih =>
    intro m p h hp _ hm
    have hb := h b (by simp)
    refine ⟨fun hb35 => ?_, ?_⟩
    · rcases hp with hp | ⟨c, t, hc, h35⟩
      · exact hp
      · injection hc with h1 _
        exact absurd (h1 ▸ hb35) h35
    · rw [hb]
      cases u with
      | nil => exact hm
      | cons c u => exact ih (fun x hx => h x (by simp [hx])) (.inl rfl) (by simp) hm
theorem noNote_join : ∀ (ws : List (List UInt8)) (p : Bool), (∀ u ∈ ws, u ≠ [] ∧ ∀ x ∈ u, wh x = false) → (∀ a t, ws = a :: t → (p = false ∨ ∃ b u, a = b :: u ∧ b ≠ 35) ∧ ∀ u ∈ t, ∃ b v, u = b :: v ∧ b ≠ 35) → noNote p (joinB ws) := by
  intro ws
  induction ws with
  | nil => intro p _ _; trivial
  | cons a ws ih =>
    intro p h h2
    obtain ⟨h3, h4⟩ := h2 a ws rfl
    have ha := h a (by simp)
    cases ws with
    | nil =>
      have := noNote_black (m := []) ha.2 h3 ha.1 trivial
      rwa [List.append_nil] at this
    | cons b t =>
      refine noNote_black ha.2 h3 ha.1 ⟨fun hb => absurd hb (by decide), ?_⟩
      rw [show wh 32 = true by decide]
      refine ih true (fun u hu => h u (by simp [hu])) (fun a' t' he => ?_)
      injection he with he1 he2
      subst he1 he2
      exact ⟨.inr (h4 b (by simp)), fun u hu => h4 u (by simp [hu])⟩
end U
end Go.Proofs.YtjnmgmepolpcdaaDoor
