/- Plain laws on plain scalars: what may stand in brackets; what looks like anything but a text. -/
import Derived.Test.YtjfgcbikdibjeaaGreatDoorPPick
import Derived.Test.YtjfgcbikdibjeaaGreatDoorPCore2
namespace Go.Proofs.YtjfgcbikdibjeaaGreatDoor
namespace U
open Go

theorem partF_all (l : List UInt8) (flow : Bool) : ∀ f p, partF l flow f p = p + f ↔ ∀ j, p ≤ j → j < p + f → cutsN l j flow = false := by
  intro f
  induction f with
  | zero => intro p; exact ⟨fun _ j h1 h2 => by omega, fun _ => rfl⟩
  | succ f ih =>
    intro p
    rw [partF]
    cases hc : cutsN l p flow with
    | true =>
      rw [if_pos rfl]
      constructor
      · intro h; omega
      · intro h; have := h p (Nat.le_refl _) (by omega); rw [hc] at this; cases this
    | false =>
      rw [if_neg (by decide), show p + (f + 1) = p + 1 + f by omega, ih]
      constructor
      · intro h j h1 h2
        rcases Nat.eq_or_lt_of_le h1 with rfl | h1
        · exact hc
        · exact h j h1 h2
      · intro h j h1 h2
        exact h j (by omega) h2
theorem trimB_all (l : List UInt8) (a : Nat) : ∀ k, trimB l a k = a + k ↔ (k = 0 ∨ whN (byt l (a + k - 1)) = false) := by
  intro k
  cases k with
  | zero => simp [trimB]
  | succ k =>
    rw [trimB, show a + (k + 1) - 1 = a + k by omega]
    cases h : whN (byt l (a + k)) with
    | true =>
      rw [if_pos rfl]
      have := trimB_le l a k
      constructor
      · intro h; omega
      · intro h; rcases h with h | h
        · omega
        · cases h
    | false =>
      rw [if_neg (by decide)]
      exact ⟨fun _ => .inr rfl, fun _ => by omega⟩
/-- What may stand plain, byte by byte. -/
structure IsPlain (l : List UInt8) (flow : Bool) : Prop where
  pos : 0 < l.length
  begin : beginsM l 0 flow = true
  cuts : ∀ j, j < l.length → cutsN l j flow = false
  last : whN (byt l (l.length - 1)) = false
  row : ∀ j, j < l.length → byt l j ≠ 9 ∧ byt l j ≠ 10
  told : toldP l = true
  mark : preN l 45 = false
  dots : preN l 46 = false
theorem all_byt {l : List UInt8} {P : Nat → Prop} [DecidablePred P] : (l.all fun b => decide (P b.toNat)) = true ↔ ∀ j, j < l.length → P (byt l j) := by
  rw [List.all_eq_true]
  constructor
  · intro h j hj
    have := of_decide_eq_true (h (l[j]'hj) (List.getElem_mem hj))
    rw [byt_get l j hj] at this
    exact this
  · intro h b hb
    obtain ⟨j, hj, rfl⟩ := List.mem_iff_getElem.1 hb
    have := h j hj
    rw [← byt_get l j hj] at this
    exact decide_eq_true this
theorem row_byt {l : List UInt8} : (l.all fun b => decide (b ≠ 9 ∧ b ≠ 10)) = true ↔ ∀ j, j < l.length → byt l j ≠ 9 ∧ byt l j ≠ 10 := by
  rw [← all_byt (P := fun n => n ≠ 9 ∧ n ≠ 10)]
  have : ∀ b : UInt8, (b ≠ 9 ∧ b ≠ 10) ↔ (b.toNat ≠ 9 ∧ b.toNat ≠ 10) := by
    intro b
    constructor
    · rintro ⟨h1, h2⟩
      exact ⟨fun h => h1 (UInt8.toNat_inj.1 h), fun h => h2 (UInt8.toNat_inj.1 h)⟩
    · rintro ⟨h1, h2⟩
      exact ⟨fun h => h1 (by rw [h]; rfl), fun h => h2 (by rw [h]; rfl)⟩
  simp only [this]
theorem part_whole {l : List UInt8} {flow : Bool} (hp : 0 < l.length) (hr : ∀ j, j < l.length → byt l j ≠ 9 ∧ byt l j ≠ 10) : partM l 0 flow = l.length ↔ (∀ j, j < l.length → cutsN l j flow = false) ∧ whN (byt l (l.length - 1)) = false := by
  have hto : rowTo l 0 = l.length := rowTo_is (Nat.zero_le _) (Nat.le_refl _) (.inl rfl) (fun j _ h => (hr j h).2)
  unfold partM
  rw [if_pos hp, hto, Nat.sub_zero, Nat.sub_zero]
  have hle := partF_le l flow l.length 0
  have htl := trimB_le l 0 (partF l flow l.length 0)
  constructor
  · intro h
    have he : partF l flow l.length 0 = 0 + l.length := by omega
    rw [he] at h
    refine ⟨fun j hj => (partF_all l flow l.length 0).1 he j (Nat.zero_le _) (by omega), ?_⟩
    have := (trimB_all l 0 (0 + l.length)).1 (by omega)
    rw [show 0 + (0 + l.length) - 1 = l.length - 1 by omega] at this
    rcases this with h0 | h0
    · omega
    · exact h0
  · rintro ⟨h1, h2⟩
    have he : partF l flow l.length 0 = 0 + l.length := (partF_all l flow l.length 0).2 (fun j _ hj => h1 j (by omega))
    rw [he]
    have := (trimB_all l 0 (0 + l.length)).2 (.inr (by rw [show 0 + (0 + l.length) - 1 = l.length - 1 by omega]; exact h2))
    omega
theorem begins_pos {l : List UInt8} {flow : Bool} (h : beginsM l 0 flow = true) : 0 < l.length := by
  rcases Nat.eq_zero_or_pos l.length with h0 | h0
  · unfold beginsM endsM at h
    rw [decide_eq_true (show l.length ≤ 0 by omega)] at h
    simp at h
  · exact h0
theorem plain_iff {l : List UInt8} {flow : Bool} : plainM l flow = true ↔ IsPlain l flow := by
  unfold plainM
  simp only [Bool.and_eq_true, Bool.not_eq_true', decide_eq_true_eq]
  constructor
  · rintro ⟨⟨⟨⟨⟨h1, h2⟩, h3⟩, h4⟩, h5⟩, h6⟩
    have hp := begins_pos h1
    have hr := row_byt.1 h3
    obtain ⟨h7, h8⟩ := (part_whole hp hr).1 h2
    exact ⟨hp, h1, h7, h8, hr, h4, h5, h6⟩
  · rintro ⟨hp, h1, h7, h8, hr, h4, h5, h6⟩
    exact ⟨⟨⟨⟨⟨h1, (part_whole hp hr).2 ⟨h7, h8⟩⟩, row_byt.2 hr⟩, h4⟩, h5⟩, h6⟩
theorem cuts_flow {l : List UInt8} {j : Nat} (h : cutsN l j true = false) : flowN (byt l j) = false := by
  unfold cutsN at h
  split at h
  · rename_i h35; rw [h35]; rfl
  · split at h
    · rename_i h58; rw [h58]; rfl
    · simpa using h
theorem stops_same {l : List UInt8} (hn : ∀ j, j < l.length → flowN (byt l j) = false) (p : Nat) : stopsN l p true = stopsN l p false := by
  unfold stopsN
  rcases Nat.lt_or_ge (p + 1) l.length with h | h
  · rw [hn _ h]; simp
  · have : endsM l (p + 1) = true := by unfold endsM; rw [decide_eq_true h]; rfl
    rw [this]; rfl
theorem plain_flow (l : List UInt8) : plainM l true = (plainM l false && !(l.any fun b => flowN b.toNat)) := by
  have hany : (l.any fun b => flowN b.toNat) = false ↔ ∀ j, j < l.length → flowN (byt l j) = false := by
    rw [List.any_eq_false]
    constructor
    · intro h j hj
      have := h (l[j]'hj) (List.getElem_mem hj)
      rw [byt_get l j hj] at this
      simpa using this
    · intro h b hb
      obtain ⟨j, hj, rfl⟩ := List.mem_iff_getElem.1 hb
      have := h j hj
      rw [← byt_get l j hj] at this
      simp [this]
  rw [Bool.eq_iff_iff, Bool.and_eq_true, Bool.not_eq_true', plain_iff, plain_iff, hany]
  constructor
  · intro h
    have hn : ∀ j, j < l.length → flowN (byt l j) = false := fun j hj => cuts_flow (h.cuts j hj)
    refine ⟨⟨h.pos, ?_, fun j hj => ?_, h.last, h.row, h.told, h.mark, h.dots⟩, hn⟩
    · have := h.begin
      unfold beginsM at this ⊢
      rw [stops_same hn] at this
      exact this
    · have := h.cuts j hj
      unfold cutsN at this ⊢
      rw [stops_same hn] at this
      split
      · rename_i h35; rw [if_pos h35] at this; exact this
      · rename_i h35
        rw [if_neg h35] at this
        split
        · rename_i h58; rw [if_pos h58] at this; exact this
        · rfl
  · rintro ⟨h, hn⟩
    refine ⟨h.pos, ?_, fun j hj => ?_, h.last, h.row, h.told, h.mark, h.dots⟩
    · have := h.begin
      unfold beginsM at this ⊢
      rw [stops_same hn]
      exact this
    · have := h.cuts j hj
      unfold cutsN at this ⊢
      rw [stops_same hn]
      split
      · rename_i h35; rw [if_pos h35] at this; exact this
      · rename_i h35
        rw [if_neg h35] at this
        split
        · rename_i h58; rw [if_pos h58] at this; exact this
        · rw [hn j hj]; rfl
/-! ### What looks like anything but a text. -/
def setC (b : UInt8) : Bool := decide ((48 ≤ b.toNat ∧ b.toNat ≤ 57) ∨ (65 ≤ b.toNat ∧ b.toNat ≤ 90) ∨ (97 ≤ b.toNat ∧ b.toNat ≤ 122) ∨ b.toNat = 43 ∨ b.toNat = 45 ∨ b.toNat = 46 ∨ b.toNat = 126)
theorem setC_all : ∀ b : UInt8, setC b = true → (b.toNat ≠ 9 ∧ b.toNat ≠ 10 ∧ b.toNat ≠ 35 ∧ b.toNat ≠ 58 ∧ flowN b.toNat = false ∧ whN b.toNat = false ∧ (b.toNat ≠ 45 → b.toNat ≠ 63 ∧ indN b.toNat = false) ∧ b.toNat < 128 ∧ printable (b.toNat : Int) = true) := by
  intro b h
  have h := of_decide_eq_true h
  refine ⟨by omega, by omega, by omega, by omega, decide_eq_false (by omega), decide_eq_false (by omega), fun h45 => ⟨by omega, ?_⟩, by omega, ?_⟩
  · unfold indN
    rw [Bool.or_eq_false_iff]
    exact ⟨decide_eq_false (by omega), decide_eq_false (by omega)⟩
  · unfold printable
    exact decide_eq_true (by omega)
theorem told_ascii {l : List UInt8} (h : ∀ b ∈ l, setC b = true) : toldP l = true := by
  have he := ascii_enc l (fun b hb => (setC_all b (h b hb)).2.2.2.2.2.2.2.1)
  unfold toldP
  rw [← he, place_enc, runes_enc, Bool.and_eq_true]
  refine ⟨List.all_eq_true.2 fun y hy => ?_, by decide⟩
  obtain ⟨x, hx, rfl⟩ := List.mem_map.1 hy
  obtain ⟨b, hb, rfl⟩ := List.mem_map.1 hx
  have := setC_all b (h b hb)
  rw [fixr_same (by omega) (by omega) (by omega)]
  exact this.2.2.2.2.2.2.2.2
theorem plain_set {l : List UInt8} (h : ∀ b ∈ l, setC b = true) (hp : 0 < l.length) (h45 : byt l 0 = 45 → 2 ≤ l.length) (hm : preN l 45 = false) (hd : preN l 46 = false) (flow : Bool) : plainM l flow = true := by
  have hj : ∀ j, j < l.length → ∃ b, setC b = true ∧ byt l j = b.toNat := fun j hj => ⟨l[j]'hj, h _ (List.getElem_mem hj), (byt_get l j hj).symm⟩
  have hends : ∀ j, j < l.length → endsM l j = false := by
    intro j hjl
    obtain ⟨b, hb, he⟩ := hj j hjl
    have := setC_all b hb
    unfold endsM
    rw [decide_eq_false (by omega), he, this.2.2.2.2.2.1, decide_eq_false (by omega)]
    rfl
  refine plain_iff.2 ⟨hp, ?_, fun j hjl => ?_, ?_, fun j hjl => ?_, told_ascii h, hm, hd⟩
  · obtain ⟨b, hb, he⟩ := hj 0 hp
    have hs := setC_all b hb
    unfold beginsM
    rw [hends 0 hp]
    by_cases h0 : byt l 0 = 45
    · rw [if_pos (.inl h0)]
      obtain ⟨b1, hb1, he1⟩ := hj 1 (by have := h45 h0; omega)
      have hs1 := setC_all b1 hb1
      unfold stopsN
      rw [hends 1 (by have := h45 h0; omega), he1, hs1.2.2.2.2.1]
      simp
    · have := hs.2.2.2.2.2.2.1 (by omega)
      rw [if_neg (by omega), he, this.2]
      rfl
  · obtain ⟨b, hb, he⟩ := hj j hjl
    have hs := setC_all b hb
    unfold cutsN
    rw [if_neg (by omega), if_neg (by omega), he, hs.2.2.2.2.1, Bool.and_false]
  · obtain ⟨b, hb, he⟩ := hj (l.length - 1) (by omega)
    rw [he]
    exact (setC_all b hb).2.2.2.2.2.1
  · obtain ⟨b, hb, he⟩ := hj j hjl
    have hs := setC_all b hb
    omega
theorem dec10_set {b : UInt8} (h : dec10 b = true) : setC b = true := by
  have h := of_decide_eq_true h
  exact decide_eq_true (by omega)
theorem unsign_set {t : List UInt8} (h : ∀ b ∈ unsign t, setC b = true) : ∀ b ∈ t, setC b = true := by
  cases t with
  | nil => intro b hb; cases hb
  | cons a t =>
    have hu : unsign (a :: t) = if a = 43 ∨ a = 45 then t else a :: t := rfl
    rw [hu] at h
    by_cases ha : a = 43 ∨ a = 45
    · rw [if_pos ha] at h
      intro b hb
      rcases List.mem_cons.1 hb with rfl | hb
      · rcases ha with rfl | rfl <;> decide
      · exact h b hb
    · rw [if_neg ha] at h
      exact h
theorem takeW_mem {p : UInt8 → Bool} : ∀ {l : List UInt8} {b : UInt8}, b ∈ l.takeWhile p → p b = true := by
  intro l
  induction l with
  | nil => intro b hb; cases hb
  | cons a t ih =>
    intro b hb
    rw [List.takeWhile_cons] at hb
    split at hb
    · rename_i ha
      rcases List.mem_cons.1 hb with rfl | hb
      · exact ha
      · exact ih hb
    · cases hb
theorem all_set {l : List UInt8} (h : allOf dec10 l = true) : ∀ b ∈ l, setC b = true := by
  unfold allOf at h
  rw [Bool.and_eq_true] at h
  exact fun b hb => dec10_set (List.all_eq_true.1 h.2 b hb)
theorem expo_set {k : Nat} {l : List UInt8} (h : expo k l ≠ 0) : ∀ b ∈ l, setC b = true := by
  cases l with
  | nil => intro b hb; cases hb
  | cons a t =>
    rw [expo_cons] at h
    split at h
    · rename_i ha
      split at h
      · rename_i hd
        intro b hb
        rcases List.mem_cons.1 hb with rfl | hb
        · rcases ha with rfl | rfl <;> decide
        · exact unsign_set (all_set hd) b hb
      · exact absurd rfl h
    · exact absurd rfl h
theorem take_set (l : List UInt8) : ∀ b ∈ l.takeWhile dec10, setC b = true := fun b hb => dec10_set (takeW_mem hb)
theorem num_set {u : List UInt8} (h : num u ≠ 0) : (∀ b ∈ u, setC b = true) ∧ ∃ b t, u = b :: t ∧ b ≠ 45 ∧ b ≠ 43 ∧ (b = 46 → ∃ c t', t = c :: t' ∧ dec10 c = true) := by
  unfold num at h
  have hu : u.takeWhile dec10 ++ u.dropWhile dec10 = u := List.takeWhile_append_dropWhile
  have hd := take_set u
  have hdd : ∀ b ∈ u.takeWhile dec10, dec10 b = true := fun b hb => takeW_mem hb
  generalize u.takeWhile dec10 = d at *
  generalize u.dropWhile dec10 = r at *
  subst hu
  have hr : (∀ b ∈ r, setC b = true) ∧ (d = [] → ∃ c t', r = 46 :: c :: t' ∧ dec10 c = true) := by
    cases r with
    | nil =>
      refine ⟨fun b hb => (by cases hb), fun hd0 => ?_⟩
      subst hd0
      exact absurd rfl h
    | cons b t =>
      rw [numR_cons] at h
      by_cases h46 : b = 46
      · rw [if_pos h46] at h
        subst h46
        split at h
        · exact absurd rfl h
        · rename_i ha
          have ht : t.takeWhile dec10 ++ t.dropWhile dec10 = t := List.takeWhile_append_dropWhile
          refine ⟨fun b hb => ?_, fun hd0 => ?_⟩
          · rcases List.mem_cons.1 hb with rfl | hb
            · decide
            · rw [← ht] at hb
              rcases List.mem_append.1 hb with hb | hb
              · exact take_set t b hb
              · exact expo_set h b hb
          · subst hd0
            cases t with
            | nil => exact absurd rfl ha
            | cons c t' =>
              refine ⟨c, t', rfl, ?_⟩
              cases hc : dec10 c with
              | true => rfl
              | false =>
                rw [List.takeWhile_cons, hc] at ha
                exact absurd rfl ha
      · rw [if_neg h46] at h
        split at h
        · exact absurd rfl h
        · rename_i ha
          refine ⟨expo_set h, fun hd0 => ?_⟩
          subst hd0
          exact absurd rfl ha
  refine ⟨fun b hb => (List.mem_append.1 hb).elim (hd b) (hr.1 b), ?_⟩
  cases d with
  | nil =>
    obtain ⟨c, t', rfl, hc⟩ := hr.2 rfl
    exact ⟨46, c :: t', rfl, by decide, by decide, fun _ => ⟨c, t', rfl, hc⟩⟩
  | cons a d' =>
    have := dec10_no (hdd a (by simp))
    exact ⟨a, d' ++ r, rfl, this.2.1, this.1, fun h => absurd h this.2.2.1⟩
end U
end Go.Proofs.YtjfgcbikdibjeaaGreatDoor
