/- Plain law: what looks like anything but a text may stand plain. -/
import Derived.Test.YtjfgcbikdibjeaaGreatDoorPPick2
namespace Go.Proofs.YtjfgcbikdibjeaaGreatDoor
namespace U
open Go

theorem lists_plain : ∀ s ∈ nulls ++ bools ++ nans, s ≠ [] → plainM s false = true ∧ plainM s true = true := by decide +kernel
theorem unsign_cases (s : List UInt8) : unsign s = s ∨ s = 43 :: unsign s ∨ s = 45 :: unsign s := by
  cases s with
  | nil => exact .inl rfl
  | cons a t =>
    have hu : unsign (a :: t) = if a = 43 ∨ a = 45 then t else a :: t := rfl
    rw [hu]
    by_cases ha : a = 43 ∨ a = 45
    · rw [if_pos ha]
      rcases ha with rfl | rfl
      · exact .inr (.inl rfl)
      · exact .inr (.inr rfl)
    · rw [if_neg ha]
      exact .inl rfl
theorem unsign_plain {s : List UInt8} (hs : ∀ b ∈ unsign s, setC b = true) (hf : ∃ b t, unsign s = b :: t ∧ b ≠ 45 ∧ (b = 46 → ∃ c t', t = c :: t' ∧ c ≠ 46)) (flow : Bool) : plainM s flow = true := by
  obtain ⟨b, t, hu, hb, hd⟩ := hf
  have hset := unsign_set hs
  have hb45 : b.toNat ≠ 45 := fun h => hb (UInt8.toNat_inj.1 h)
  have h46 : b.toNat = 46 → ∃ c t', t = c :: t' ∧ c.toNat ≠ 46 := fun h => by
    obtain ⟨c, t', h1, h2⟩ := hd (UInt8.toNat_inj.1 h)
    exact ⟨c, t', h1, fun h => h2 (UInt8.toNat_inj.1 h)⟩
  rcases unsign_cases s with h | h | h
  · rw [hu] at h
    subst h
    refine plain_set hset (by simp) (fun h => absurd (show b.toNat = 45 from h) hb45) (decide_eq_false fun h => hb45 h.2.1) (decide_eq_false fun h => ?_) flow
    obtain ⟨c, t', rfl, h2⟩ := h46 h.2.1
    exact h2 h.2.2.1
  · rw [hu] at h
    subst h
    exact plain_set hset (by simp) (fun h => by have : (43 : UInt8).toNat = 45 := h; cases this) (decide_eq_false fun h => by have : (43 : UInt8).toNat = 45 := h.2.1; cases this) (decide_eq_false fun h => by have : (43 : UInt8).toNat = 46 := h.2.1; cases this) flow
  · rw [hu] at h
    subst h
    exact plain_set hset (by simp) (fun _ => by simp) (decide_eq_false fun h => hb45 h.2.2.1) (decide_eq_false fun h => by have : (45 : UInt8).toNat = 46 := h.2.1; cases this) flow
theorem allOf_mem {p : UInt8 → Bool} {l : List UInt8} (h : allOf p l = true) : l ≠ [] ∧ ∀ b ∈ l, p b = true := by
  unfold allOf at h
  rw [Bool.and_eq_true] at h
  exact ⟨fun e => (by rw [e] at h; cases h.1), fun b hb => List.all_eq_true.1 h.2 b hb⟩
theorem oct_set {b : UInt8} (h : oct8 b = true) : setC b = true := by
  have h := of_decide_eq_true h
  exact decide_eq_true (by omega)
theorem hex_set {b : UInt8} (h : hex16 b = true) : setC b = true := by
  have h := of_decide_eq_true h
  exact decide_eq_true (by omega)
theorem base_plain {c : UInt8} {t : List UInt8} (hc : setC c = true) (ht : ∀ b ∈ t, setC b = true) (flow : Bool) : plainM (48 :: c :: t) flow = true := by
  refine plain_set (fun b hb => ?_) (by simp) (fun h => by have : (48 : UInt8).toNat = 45 := h; cases this) (decide_eq_false fun h => by have : (48 : UInt8).toNat = 45 := h.2.1; cases this) (decide_eq_false fun h => by have : (48 : UInt8).toNat = 46 := h.2.1; cases this) flow
  rcases List.mem_cons.1 hb with rfl | hb
  · decide
  · rcases List.mem_cons.1 hb with rfl | hb
    · exact hc
    · exact ht b hb
theorem infs_all : ∀ s ∈ infs, (∀ b ∈ s, setC b = true) ∧ ∃ c t', s = 46 :: c :: t' ∧ c ≠ 46 := by
  intro s hs
  simp only [infs, List.mem_cons, List.not_mem_nil, or_false] at hs
  rcases hs with rfl | rfl | rfl
  · exact ⟨by decide, _, _, rfl, by decide⟩
  · exact ⟨by decide, _, _, rfl, by decide⟩
  · exact ⟨by decide, _, _, rfl, by decide⟩
theorem core_plain {s : List UInt8} (h0 : s ≠ []) (h : coreP s ≠ wStr) (flow : Bool) : plainM s flow = true := by
  have hl : ∀ s ∈ nulls ++ bools ++ nans, s ≠ [] → plainM s flow = true := fun s hs h0 => by
    have := lists_plain s hs h0
    cases flow
    · exact this.1
    · exact this.2
  unfold coreP at h
  by_cases h1 : nulls.contains s = true
  · exact hl s (by simp only [List.mem_append]; exact .inl (.inl (by simpa using h1))) h0
  rw [if_neg h1] at h
  by_cases h2 : bools.contains s = true
  · exact hl s (by simp only [List.mem_append]; exact .inl (.inr (by simpa using h2))) h0
  rw [if_neg h2] at h
  by_cases h3 : wholeB s = true
  · unfold wholeB at h3
    by_cases ho : pre2 48 111 s = true
    · rw [if_pos ho] at h3
      obtain ⟨t, rfl⟩ := pre2_form ho
      have ha : allOf oct8 t = true := h3
      exact base_plain (by decide) (fun b hb => oct_set ((allOf_mem ha).2 b hb)) flow
    rw [if_neg ho] at h3
    by_cases hx : pre2 48 120 s = true
    · rw [if_pos hx] at h3
      obtain ⟨t, rfl⟩ := pre2_form hx
      have ha : allOf hex16 t = true := h3
      exact base_plain (by decide) (fun b hb => hex_set ((allOf_mem ha).2 b hb)) flow
    rw [if_neg hx] at h3
    obtain ⟨hne, hall⟩ := allOf_mem h3
    refine unsign_plain (fun b hb => dec10_set (hall b hb)) ?_ flow
    cases hu : unsign s with
    | nil => exact absurd hu hne
    | cons b t =>
      have := dec10_no (hall b (by rw [hu]; simp))
      exact ⟨b, t, rfl, this.2.1, fun h => absurd h this.2.2.1⟩
  rw [if_neg h3] at h
  by_cases h4 : floatB s = true
  · unfold floatB at h4
    rw [Bool.or_eq_true] at h4
    rcases h4 with h4 | h4
    · obtain ⟨hs, c, t', hu, hc⟩ := infs_all (unsign s) (by simpa using h4)
      exact unsign_plain hs ⟨46, c :: t', hu, by decide, fun _ => ⟨c, t', rfl, hc⟩⟩ flow
    · have hn : num (unsign s) ≠ 0 := by simpa using h4
      obtain ⟨hs, b, t, hu, hb, _, hd⟩ := num_set hn
      refine unsign_plain hs ⟨b, t, hu, hb, fun h46 => ?_⟩ flow
      obtain ⟨c, t', h1, h2⟩ := hd h46
      exact ⟨c, t', h1, (dec10_no h2).2.2.1⟩
  rw [if_neg h4] at h
  by_cases h5 : nans.contains s = true
  · exact hl s (by simp only [List.mem_append]; exact .inr (by simpa using h5)) h0
  · rw [if_neg h5] at h
    exact absurd rfl h
end U
end Go.Proofs.YtjfgcbikdibjeaaGreatDoor
