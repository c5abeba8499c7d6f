/- Plain laws on digits by eight and by sixteen. No program in sight. -/
import Derived.Test.YtjnmgmepolpcdaaDoorPCore2
namespace Go.Proofs.YtjnmgmepolpcdaaDoor
namespace U
open Go

theorem bases_oct (t : List UInt8) : basesR (48 :: 111 :: t) = allOf oct8 t := by
  have h1 : pre2 48 111 (48 :: 111 :: t) = true := by simp [pre2, List.isPrefixOf]
  have h2 : pre2 48 120 (48 :: 111 :: t) = false := by simp [pre2, List.isPrefixOf]
  unfold basesR
  rw [h1, h2]
  simp
theorem bases_hex (t : List UInt8) : basesR (48 :: 120 :: t) = allOf hex16 t := by
  have h1 : pre2 48 111 (48 :: 120 :: t) = false := by simp [pre2, List.isPrefixOf]
  have h2 : pre2 48 120 (48 :: 120 :: t) = true := by simp [pre2, List.isPrefixOf]
  unfold basesR
  rw [h1, h2]
  simp
theorem bases_off {a b : UInt8} (t : List UInt8) (h : a ≠ 48 ∨ (b ≠ 111 ∧ b ≠ 120)) : basesR (a :: b :: t) = false := by
  have h1 : pre2 48 111 (a :: b :: t) = false := by
    simp only [pre2, List.isPrefixOf, Bool.and_true]
    rcases h with h | h
    · simp [Ne.symm h]
    · simp [Ne.symm h.1]
  have h2 : pre2 48 120 (a :: b :: t) = false := by
    simp only [pre2, List.isPrefixOf, Bool.and_true]
    rcases h with h | h
    · simp [Ne.symm h]
    · simp [Ne.symm h.2]
  unfold basesR
  rw [h1, h2]
  rfl
theorem head_zero (c : UInt8) (t : List UInt8) : numHead (48 :: c :: t) = true := by simp [numHead, show dec10 48 = true by decide]
theorem core_base {s : List UInt8} (hh : numHead s = true) (hb : basesR s = true) : coreR s = wInt := by
  have hn := heads_no s
  have h : ∀ L : List (List UInt8), (∀ x ∈ L, x ∈ nulls ++ bools ++ nans) → L.contains s = false := by
    intro L hL
    rw [Bool.eq_false_iff]
    intro hc
    have := hn (hL s (by simpa using hc))
    rw [this] at hh
    cases hh
  unfold coreR
  rw [h nulls (fun x hx => by simp only [List.mem_append]; exact .inl (.inl hx)), h bools (fun x hx => by simp only [List.mem_append]; exact .inl (.inr hx)), h nans (fun x hx => by simp only [List.mem_append]; exact .inr hx), hb]
  rfl
theorem restR_no {s : List UInt8} (h1 : num (unsign s) = 0) (h2 : infs.contains (unsign s) = false) : restR s = wStr := by
  unfold restR
  rw [h1, h2]
  rfl
theorem core_oct {o : List UInt8} (h : allOf oct8 o = true) : coreR (48 :: 111 :: o) = wInt := core_base (head_zero _ _) (by rw [bases_oct, h])
theorem core_hex {x : List UInt8} (h : allOf hex16 x = true) : coreR (48 :: 120 :: x) = wInt := core_base (head_zero _ _) (by rw [bases_hex, h])
theorem core_zero {c : UInt8} (hc : dec10 c = false ∧ c ≠ 46 ∧ c ≠ 101 ∧ c ≠ 69) {t : List UInt8} (hb : basesR (48 :: c :: t) = false) : coreR (48 :: c :: t) = wStr := by
  have h := num_base c hc.1 hc.2.1 hc.2.2 t
  rw [coreR_head (head_zero _ _) hb, restR_no h.1 h.2]
theorem core_signed {g c : UInt8} (hg : g = 43 ∨ g = 45) (hc : dec10 c = false ∧ c ≠ 46 ∧ c ≠ 101 ∧ c ≠ 69) (t : List UInt8) : coreR (g :: 48 :: c :: t) = wStr := by
  have h := num_base c hc.1 hc.2.1 hc.2.2 t
  have hu : unsign (g :: 48 :: c :: t) = unsign (48 :: c :: t) := by
    rcases hg with rfl | rfl <;> simp [unsign]
  rw [coreR_head (by rcases hg with rfl | rfl <;> simp [numHead]) (bases_off _ (.inl (by rcases hg with rfl | rfl <;> decide))), restR_no (by rw [hu]; exact h.1) (by rw [hu]; exact h.2)]
theorem all_laid {p : UInt8 → Bool} {b : UInt8} (hb : p b = false) (a c : List UInt8) : allOf p (a ++ b :: c) = false := by simp [allOf, hb]
theorem core_laid_oct (a c : List UInt8) : coreR (48 :: 111 :: (a ++ 56 :: c)) = wStr := core_zero (by decide) (by rw [bases_oct, all_laid (by decide)])
theorem core_laid_hex (a c : List UInt8) : coreR (48 :: 120 :: (a ++ 103 :: c)) = wStr := core_zero (by decide) (by rw [bases_hex, all_laid (by decide)])
theorem core_big (x : List UInt8) : coreR (48 :: 88 :: x) = wStr := core_zero (by decide) (bases_off _ (.inr (by decide)))
end U
end Go.Proofs.YtjnmgmepolpcdaaDoor
