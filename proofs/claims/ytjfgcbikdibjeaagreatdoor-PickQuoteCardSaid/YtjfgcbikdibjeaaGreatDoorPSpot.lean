/- Plain laws on lines and columns. No program in sight. -/
import Derived.Test.YtjfgcbikdibjeaaGreatDoorPCut
import Derived.Lib.LastIndexByte
namespace Go.Proofs.YtjfgcbikdibjeaaGreatDoor
namespace U
open Go

/-- How many LF there are. -/
def lf (l : List UInt8) : Nat := l.count 10
/-- What stands behind the last LF. -/
def tl (l : List UInt8) : List UInt8 := l.foldl (fun acc b => if b = 10 then [] else acc ++ [b]) []
def at' (l : List UInt8) (p : Nat) : Nat × Nat := (lf (l.take p) + 1, width (tl (l.take p)) + 1)

theorem lf_nil : lf [] = 0 := rfl
theorem tl_nil : tl [] = [] := rfl
theorem lf_append (a b : List UInt8) : lf (a ++ b) = lf a + lf b := by simp [lf]
theorem lf_le (l : List UInt8) : lf l ≤ l.length := List.count_le_length
theorem lf_snoc (l : List UInt8) (b : UInt8) : lf (l ++ [b]) = if b = 10 then lf l + 1 else lf l := by
  rw [lf_append]
  by_cases h : b = 10
  · subst h; simp [lf]
  · simp [lf, h]
theorem tl_snoc (l : List UInt8) (b : UInt8) : tl (l ++ [b]) = if b = 10 then [] else tl l ++ [b] := by simp [tl]
theorem tl_append (a : List UInt8) : ∀ (b : List UInt8), (∀ x ∈ b, x ≠ 10) → tl (a ++ b) = tl a ++ b := by
  intro b
  induction b generalizing a with
  | nil => intro _; simp
  | cons x b ih =>
    intro h
    have := ih (a ++ [x]) (fun y hy => h y (List.mem_cons_of_mem _ hy))
    rw [List.append_assoc, List.singleton_append] at this
    rw [this, tl_snoc, if_neg (h x (List.mem_cons_self ..)), List.append_assoc, List.singleton_append]
theorem lf_none (b : List UInt8) (h : ∀ x ∈ b, x ≠ 10) : lf b = 0 := by
  unfold lf
  exact List.count_eq_zero.2 (fun hh => h 10 hh rfl)
theorem take_snoc (l : List UInt8) (k : Nat) (h : k < l.length) : l.take (k + 1) = l.take k ++ [l[k]'h] := List.take_succ_eq_append_getElem h
theorem get_iff (l : List UInt8) (k : Nat) (h : k < l.length) : l[k]'h = 10 ↔ byt l k = 10 := by
  rw [← byt_get l k h]
  constructor
  · intro hh; rw [hh]; rfl
  · intro hh
    exact UInt8.toNat.inj (by rw [hh]; rfl)
theorem lf_step (l : List UInt8) (k : Nat) (h : k < l.length) : lf (l.take (k + 1)) = if byt l k = 10 then lf (l.take k) + 1 else lf (l.take k) := by
  rw [take_snoc l k h, lf_snoc]
  simp only [get_iff l k h]
theorem tl_step (l : List UInt8) (k : Nat) (h : k < l.length) : tl (l.take (k + 1)) = if byt l k = 10 then [] else tl (l.take k) ++ [l[k]'h] := by
  rw [take_snoc l k h, tl_snoc]
  simp only [get_iff l k h]

/-- What stands behind the last LF, by its place. -/
theorem tl_last (l : List UInt8) : tl l = l.drop (Lib.lastIndexByte ⟨l.toArray⟩ 10 + 1).toNat ∧ -1 ≤ Lib.lastIndexByte ⟨l.toArray⟩ 10 ∧ Lib.lastIndexByte ⟨l.toArray⟩ 10 < l.length := by
  have hg : ∀ (j : Nat) (hj : j < l.length), (((⟨l.toArray⟩ : ByteArray).data[j]!).toNat : Int) ≠ 10 → l[j]'hj ≠ 10 := by
    intro j hj h h2
    apply h
    show (((l.toArray)[j]!).toNat : Int) = 10
    rw [getElem!_pos l.toArray j (by simpa using hj)]
    simp [h2]
  rcases Lib.lastIndexByte_spec ⟨l.toArray⟩ 10 with ⟨e, hn⟩ | ⟨i, hi, e, hc, hn⟩
  · rw [e]
    refine ⟨?_, by omega, by omega⟩
    have := tl_append [] l (fun x hx => by
      obtain ⟨j, hj, rfl⟩ := List.mem_iff_getElem.1 hx
      exact hg j hj (hn j hj))
    simpa [tl_nil] using this
  · have hi : i < l.length := hi
    rw [e]
    refine ⟨?_, by omega, by omega⟩
    have h1 : l[i]'hi = 10 := by
      have h2 : (((l.toArray)[i]!).toNat : Int) = 10 := hc
      rw [getElem!_pos l.toArray i (by simpa using hi)] at h2
      rw [List.getElem_toArray] at h2
      exact UInt8.toNat.inj (Int.ofNat.inj h2)
    have h3 := tl_append (l.take (i + 1)) (l.drop (i + 1)) (fun x hx => by
      obtain ⟨j, hj, rfl⟩ := List.mem_iff_getElem.1 hx
      rw [List.length_drop] at hj
      rw [List.getElem_drop]
      exact hg (i + 1 + j) (by omega) (hn _ (by omega) (by show _ < l.length; omega)))
    rw [List.take_append_drop, tl_step l i hi, if_pos ((get_iff l i hi).1 h1), List.nil_append] at h3
    exact h3

/-! ### A unit's bytes. -/
theorem lf_byte (m : List UInt8) : (dec m).1 = 10 ↔ byt m 0 = 10 := by
  constructor
  · intro h
    cases hb : bad m with
    | true => rw [dec_bad hb] at h; simp at h
    | false =>
      have h2 := one_good hb
      have h3 := one_eq m
      rw [h2] at h3
      have h4 := dec_w_pos m
      rw [h3] at h h4
      unfold oneN at h h4
      repeat' split at h
      all_goals simp_all
      all_goals omega
  · intro h
    rw [dec_one m (by omega)]; exact h
theorem byt_mem {m : List UInt8} {x : UInt8} (h : x ∈ m) : ∃ i, i < m.length ∧ byt m i = x.toNat := by
  obtain ⟨i, hi, rfl⟩ := List.mem_iff_getElem.1 h
  exact ⟨i, hi, (byt_get m i hi).symm⟩
theorem unit_no_lf (m : List UInt8) (hne : m ≠ []) (h : byt m 0 ≠ 10) : ∀ x ∈ m.take (dec m).2, x ≠ 10 := by
  intro x hx hx10
  subst hx10
  obtain ⟨i, hi, hb⟩ := byt_mem hx
  rw [List.length_take] at hi
  rw [byt_take _ _ _ (by omega)] at hb
  have hb : byt m i = 10 := hb
  have hi0 : i ≠ 0 := by rintro rfl; exact h hb
  cases hbad : bad m with
  | true =>
    rw [dec_bad hbad] at hi
    simp only [] at hi
    omega
  | false =>
    have he := encR_dec m hne hbad
    have hv := dec_valid m
    by_cases h128 : (dec m).1 < 128
    · have hl1 : (Lib.encodeRune ((dec m).1 : Int)).length = 1 := by
        unfold Lib.encodeRune; rw [Lib.encodeRuneZ_one (by omega) (by omega)]; rfl
      rw [he, List.length_take] at hl1
      omega
    · have hh := (enc_head (dec m).1 (by omega) hv).2 i (by omega) (by rw [he, List.length_take]; omega)
      rw [he, byt_take _ _ _ (by omega), hb] at hh
      omega

theorem dec_take (m : List UInt8) (k : Nat) (hk : (dec m).2 ≤ k) (hne : m ≠ []) : dec (m.take k) = dec m := by
  have hw := dec_w_pos m
  have hwl := dec_w_le m hne
  have hne2 : m.take k ≠ [] := by
    intro hh
    have := congrArg List.length hh
    rw [List.length_take, List.length_nil] at this
    have hp : 0 < m.length := List.length_pos_iff.2 hne
    omega
  cases hb : bad m with
  | true =>
    cases hb2 : bad (m.take k) with
    | true => rw [dec_bad hb, dec_bad hb2]
    | false =>
      have := dec_append (m.take k) (m.drop k) hne2 hb2
      rw [List.take_append_drop] at this
      exact this.symm
  | false =>
    have he := encR_dec m hne hb
    have hf := fixr_dec m
    have e1 : m.take k = Lib.encodeRune ((dec m).1 : Int) ++ (m.drop (dec m).2).take (k - (dec m).2) := by
      rw [he, ← List.take_add, Nat.add_sub_cancel' hk]
    rw [e1, dec_enc, hf]
    have hlen : (Lib.encodeRune ((dec m).1 : Int)).length = (dec m).2 := by rw [he, List.length_take]; omega
    rw [hlen]
    simp

/-- The place behind k units. -/
def adv : Nat → List UInt8 → Nat
  | 0, _ => 0
  | k + 1, m => if m = [] then 0 else (dec m).2 + adv k (m.drop (dec m).2)
theorem adv_succ (k : Nat) : ∀ m, adv k m < m.length → adv (k + 1) m = adv k m + (dec (m.drop (adv k m))).2 := by
  induction k with
  | zero =>
    intro m h
    have hne : m ≠ [] := by intro hh; subst hh; simp [adv] at h
    simp [adv, hne]
  | succ k ih =>
    intro m h
    by_cases hne : m = []
    · subst hne; simp at h
    have e : adv (k + 1) m = (dec m).2 + adv k (m.drop (dec m).2) := by rw [adv, if_neg hne]
    have hwl := dec_w_le m hne
    rw [e] at h ⊢
    rw [adv, if_neg hne, ih (m.drop (dec m).2) (by rw [List.length_drop]; omega), List.drop_drop]
    omega
theorem width_adv (k : Nat) : ∀ m, adv k m ≤ m.length → (k = 0 ∨ adv (k - 1) m < m.length) → width (m.take (adv k m)) = k := by
  induction k with
  | zero => intro m _ _; simp [adv, width, units_nil]
  | succ k ih =>
    intro m h h'
    have hne : m ≠ [] := by
      rintro rfl
      rcases h' with h' | h'
      · omega
      · simp at h'
    have hw := dec_w_pos m
    have hwl := dec_w_le m hne
    have e : adv (k + 1) m = (dec m).2 + adv k (m.drop (dec m).2) := by rw [adv, if_neg hne]
    rw [e] at h ⊢
    have hne2 : m.take ((dec m).2 + adv k (m.drop (dec m).2)) ≠ [] := by
      intro hh
      have := congrArg List.length hh
      rw [List.length_take, List.length_nil] at this
      omega
    unfold width
    rw [units_cons 0 _ hne2, dec_take m _ (by omega) hne, List.length_cons]
    have e2 : (m.take ((dec m).2 + adv k (m.drop (dec m).2))).drop (dec m).2 = (m.drop (dec m).2).take (adv k (m.drop (dec m).2)) := by
      rw [List.drop_take]
      congr 1
      omega
    rw [e2, units_shift, List.length_map]
    have := ih (m.drop (dec m).2) (by rw [List.length_drop]; omega) (by
      rcases Nat.eq_zero_or_pos k with hk | hk
      · left; exact hk
      · right
        rcases h' with h' | h'
        · omega
        · obtain ⟨j, rfl⟩ : ∃ j, k = j + 1 := ⟨k - 1, by omega⟩
          simp only [Nat.add_sub_cancel] at h' ⊢
          rw [adv, if_neg hne] at h'
          rw [List.length_drop]
          omega)
    unfold width at this
    rw [this]

/-- At a place that begins a unit: so many lines, so many columns. -/
def Sp (l : List UInt8) (pos L C : Nat) : Prop :=
  L = lf (l.take pos) + 1 ∧ ∃ f k, C = k + 1 ∧ f ≤ l.length ∧ pos = f + adv k (l.drop f) ∧ pos ≤ l.length ∧ (k = 0 ∨ adv (k - 1) (l.drop f) < (l.drop f).length) ∧ tl (l.take pos) = (l.take pos).drop f
theorem Sp_zero (l : List UInt8) : Sp l 0 1 1 := ⟨rfl, 0, 0, rfl, Nat.zero_le _, rfl, Nat.zero_le _, .inl rfl, by simp [tl_nil]⟩
theorem Sp_at {l : List UInt8} {pos L C : Nat} (h : Sp l pos L C) : at' l pos = (L, C) := by
  obtain ⟨h1, f, k, h2, hf, h3, h4, h5, h6⟩ := h
  unfold at'
  rw [← h1, h6, List.drop_take, h3, Nat.add_sub_cancel_left, width_adv k _ (by rw [List.length_drop]; omega) h5, h2]
theorem Sp_le {l : List UInt8} {pos L C : Nat} (h : Sp l pos L C) : L ≤ pos + 1 ∧ C ≤ pos + 1 := by
  have h0 := Sp_at h
  obtain ⟨h1, f, k, h2, hf, h3, h4, h5, h6⟩ := h
  unfold at' at h0
  have := lf_le (l.take pos)
  rw [List.length_take] at this
  have h7 := width_le (tl (l.take pos))
  rw [h6, List.length_drop, List.length_take] at h7
  injection h0 with h8 h9
  rw [h6] at h9
  omega
theorem Sp_feed {l : List UInt8} {pos L C : Nat} (h : Sp l pos L C) (hlt : pos < l.length) (hb : byt l pos = 10) : Sp l (pos + 1) (L + 1) 1 := by
  obtain ⟨h1, f, k, h2, hf, h3, h4, h5, h6⟩ := h
  refine ⟨?_, pos + 1, 0, rfl, hlt, rfl, hlt, .inl rfl, ?_⟩
  · rw [lf_step l pos hlt, if_pos hb]; omega
  · rw [tl_step l pos hlt, if_pos hb, List.drop_eq_nil_of_le (by rw [List.length_take]; omega)]
theorem Sp_on {l : List UInt8} {pos L C n : Nat} (h : Sp l pos L C) (hlt : pos < l.length) (hb : byt l pos ≠ 10) (hn : (dec (l.drop pos)).2 = n) : Sp l (pos + n) L (C + 1) := by
  obtain ⟨h1, f, k, h2, hf, h3, h4, h5, h6⟩ := h
  have hne : l.drop pos ≠ [] := by intro hh; have := congrArg List.length hh; simp at this; omega
  have hb' : byt (l.drop pos) 0 ≠ 10 := by rw [byt_drop]; simpa using hb
  have hnl := unit_no_lf (l.drop pos) hne hb'
  have hwl := dec_w_le (l.drop pos) hne
  rw [List.length_drop] at hwl
  have hs := adv_succ k (l.drop f) (by rw [List.length_drop]; omega)
  rw [List.drop_drop, ← h3, hn] at hs
  rw [hn] at hnl hwl
  have et : l.take (pos + n) = l.take pos ++ (l.drop pos).take n := by rw [List.take_add]
  refine ⟨?_, f, k + 1, by omega, hf, by rw [hs]; omega, by omega, .inr ?_, ?_⟩
  · rw [et, lf_append, lf_none _ hnl]; omega
  · rw [List.length_drop, Nat.add_sub_cancel]; omega
  · rw [et, tl_append _ _ hnl, h6, List.drop_append_of_le_length (by rw [List.length_take]; omega)]

/-- The first place of a row of places that has a line and a column. -/
def findAt (l : List UInt8) (line col : Int) (ps : List Nat) : Int × Bool :=
  match ps.find? (fun p => decide (((at' l p).1 : Int) = line) && decide (((at' l p).2 : Int) = col)) with
  | some p => (p, true)
  | none => (0, false)
/-- Places that begin units, and the end. -/
def starts (pos : Nat) (l : List UInt8) : List Nat := (units pos (l.drop pos)).map (·.1) ++ [l.length]
def back (l : List UInt8) (line col : Int) : Int × Bool := findAt l line col (starts 0 l)
theorem findAt_hit (l : List UInt8) (line col : Int) (p : Nat) (ps : List Nat) (h1 : ((at' l p).1 : Int) = line) (h2 : ((at' l p).2 : Int) = col) : findAt l line col (p :: ps) = ((p : Int), true) := by
  simp [findAt, h1, h2]
theorem findAt_miss (l : List UInt8) (line col : Int) (p : Nat) (ps : List Nat) (h : ¬ (((at' l p).1 : Int) = line ∧ ((at' l p).2 : Int) = col)) : findAt l line col (p :: ps) = findAt l line col ps := by
  unfold findAt
  rw [List.find?_cons_of_neg (by simpa using h)]
theorem findAt_nil (l : List UInt8) (line col : Int) : findAt l line col [] = (0, false) := rfl
theorem starts_end {l : List UInt8} {pos : Nat} (h : ¬ pos < l.length) : starts pos l = [l.length] := by
  unfold starts
  rw [List.drop_eq_nil_of_le (by omega)]; rfl
theorem starts_at {l : List UInt8} {pos n : Nat} (h : pos < l.length) (hn : (dec (l.drop pos)).2 = n) : starts pos l = pos :: starts (pos + n) l := by
  have hne : l.drop pos ≠ [] := by intro hh; have := congrArg List.length hh; simp at this; omega
  unfold starts
  rw [units_cons pos _ hne, hn, List.map_cons, List.cons_append, List.drop_drop]

/-- A place, held. -/
def held (l : List UInt8) (p : Int) : Nat := (min (max p 0) (l.length : Int)).toNat
theorem held_le (l : List UInt8) (p : Int) : held l p ≤ l.length := by unfold held; omega
end U
end Go.Proofs.YtjfgcbikdibjeaaGreatDoor
