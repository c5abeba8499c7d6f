/- The walk of bosketlaw3.SpotRows. -/
import Derived.Test.YtipcfdebbjfecaaLawSpot0
import Derived.Test.YtipcfdebbjfecaaWWord
namespace Go.Proofs.Ytipcfdebbjfecaa
open Go.RowKit U Go.Proofs

/-- Rows of words. -/
def rowsOf (xs : List Int) : List UInt8 := xs.flatMap fun n => wordOf n ++ [10]
theorem rowsOf_snoc (xs : List Int) (n : Int) : rowsOf (xs ++ [n]) = rowsOf xs ++ wordOf n ++ [10] := by simp [rowsOf]
theorem rowsOf_specs (xs : List Int) : ∀ k, k ≤ xs.length → (rowsOf (xs.take k)).length ≤ 4 * k ∧ lf (rowsOf (xs.take k)) = k ∧ tl (rowsOf (xs.take k)) = [] := by
  intro k
  induction k with
  | zero => intro _; exact ⟨by simp [rowsOf], rfl, rfl⟩
  | succ k ih =>
    intro hk
    have h := wordOf_len (xs[k]'hk)
    have h2 := (word_all _ (wordOf_mem (xs[k]'hk))).2.2.1
    obtain ⟨i1, i2, i3⟩ := ih (by omega)
    rw [List.take_succ_eq_append_getElem hk, rowsOf_snoc]
    refine ⟨by simp; omega, ?_, ?_⟩
    · rw [lf_snoc, if_pos rfl, lf_append, lf_none _ h2, i2]
    · rw [tl_snoc, if_pos rfl]
theorem rowsOf_spec (xs : List Int) : (rowsOf xs).length ≤ 4 * xs.length ∧ lf (rowsOf xs) = xs.length ∧ tl (rowsOf xs) = [] := by
  have := rowsOf_specs xs xs.length (Nat.le_refl _)
  rwa [List.take_length] at this
theorem held_all (l : List UInt8) : held l (l.length : Int) = l.length := by unfold held; omega

set_option maxRecDepth 100000 in
set_option maxHeartbeats 1000000 in
theorem spotRows_c (xs : List Int) (v : Value) (n : Int) (w : World) (hE : Env w) (hsl : Sl w v (xs.map fun x : Int => Value.int .i64 x)) (_hwf : ∀ x ∈ xs, (Lit.int .i64 x).wf = true) (hs : xs.length ≤ 9223372036854775807) (_hn0 : -9223372036854775808 ≤ n) (_hn1 : n ≤ 9223372036854775807) :
    Calls Try.prog 4 #[v, .int .i64 n] w fun e w' => e = .returned (.bool true) ∧ Below w.heap.size w w' := by
  have hA := At.refl hE
  obtain ⟨a, c, rfl, hcells⟩ := Sl.ints (k := .i64) hsl
  have HC := Lib.hid hcells
  clear hcells hsl
  by_cases hl : 12 < xs.length
  · go_enter Try.func4, Try.ntmps4
    go_wp2_with (go_at_call 5; refine (awake3_c _ hA.env).mono ?_; rintro e w1 ⟨rfl, hb⟩; have hA := hA.step hb; clear hb)
    go_ret
    exact ⟨rfl, hA.below⟩
  go_enter Try.func4, Try.ntmps4
  go_wp2_with fail
  go_loopw [5, 6] (fun s i wr => ∃ k : Nat, k ≤ xs.length ∧ s = .string ⟨(rowsOf (xs.take k)).toArray⟩ ∧ i = .int .i64 k ∧ At w wr) (fun _ i _ => xs.length - (intOf i).toNat)
  case atStart => exact ⟨0, Nat.zero_le _, rfl, rfl, hA⟩
  case round =>
    obtain ⟨k, hk, rfl, rfl, hA⟩ := hrel
    by_cases hlt : k < xs.length
    · obtain ⟨b, off, rfl, hb, hck0⟩ := HC.out k hlt
      have hck : wr.cell? ⟨b, off + k, none⟩ = some (.int .i64 (xs[k]'hlt)) := (hA.below.cell (p := ⟨b, off + k, none⟩) hb).trans hck0
      have hsn : rowsOf (xs.take (k + 1)) = rowsOf (xs.take k) ++ wordOf (xs[k]'hlt) ++ [10] := by rw [List.take_succ_eq_append_getElem hlt, rowsOf_snoc]
      have HS := Lib.hid hsn
      clear hsn hck0
      generalize hX : (xs[k]'hlt) = x at *
      clear hX
      have hrl := (rowsOf_specs xs k hk).1
      have hwl := (wordOf_len x).2
      go_wp2_with fail
      refine (word_c x _).mono ?_
      rintro e w1 ⟨rfl, hb1⟩
      have hA := hA.step hb1
      clear hb1
      go_wp2_with fail
      refine ⟨⟨k + 1, by omega, by rw [HS.out, List.append_assoc], by go_num, hA⟩, ?_⟩
      simp [intOf]; omega
    · obtain rfl : k = xs.length := by omega
      rw [List.take_length]
      obtain ⟨r1, r2, r3⟩ := rowsOf_spec xs
      have hwl := wordOf_len n
      have hwn := (word_all _ (wordOf_mem n)).2.2.1
      have ha1 : at' (rowsOf xs) (held (rowsOf xs) ((rowsOf xs).length : Int)) = (xs.length + 1, 1) := by
        rw [held_all, at', List.take_length, r2, r3]; rfl
      have ha2 : at' (rowsOf xs ++ wordOf n) (held (rowsOf xs ++ wordOf n) ((rowsOf xs ++ wordOf n).length : Int)) = (xs.length + 1, width (wordOf n) + 1) := by
        rw [held_all, at', List.take_length, lf_append, lf_none _ hwn, r2, tl_append _ _ hwn, r3, List.nil_append, Nat.add_zero]
      have ha3 : lf (rowsOf xs ++ wordOf n) = xs.length := by rw [lf_append, lf_none _ hwn, r2, Nat.add_zero]
      have hwd := width_le (wordOf n)
      clear r2 r3 hwn
      generalize hR : rowsOf xs = s at *
      generalize hW : wordOf n = t at *
      have HW := Lib.hid hW
      clear hR hW
      have htl : (s ++ t).length = s.length + t.length := List.length_append
      generalize hT : s ++ t = u at *
      have HT := Lib.hid hT
      have H1 := Lib.hid ha1
      have H2 := Lib.hid ha2
      have H3 := Lib.hid ha3
      clear hT ha1 ha2 ha3
      go_wp2_with fail
      refine (spotAt_c s s.length _ (by omega) (by omega) (by omega)).mono ?_
      rw [H1.out]
      rintro e w1 ⟨rfl, hb⟩
      have hA := hA.step hb
      clear hb
      go_wp2_with fail
      refine (word_c n _).mono ?_
      rw [HW.out]
      rintro e w1 ⟨rfl, hb⟩
      have hA := hA.step hb
      clear hb
      go_wp2_with fail
      rw [show ((s.length : Int) + (t.length : Int)) = (u.length : Int) by omega, HT.out]
      refine (spotAt_c u u.length _ (by omega) (by omega) (by omega)).mono ?_
      rw [H2.out]
      rintro e w1 ⟨rfl, hb⟩
      have hA := hA.step hb
      clear hb
      go_wp2_with fail
      refine (word_c n _).mono ?_
      rw [HW.out]
      rintro e w1 ⟨rfl, hb⟩
      have hA := hA.step hb
      clear hb
      go_wp2_with fail
      refine (width_c t _ (by omega)).mono ?_
      rintro e w1 ⟨rfl, hb⟩
      have hA := hA.step hb
      clear hb
      go_wp2_with fail
      refine (spotLines_c u _ (by omega)).mono ?_
      rw [H3.out]
      rintro e w1 ⟨rfl, rfl⟩
      go_wp2_with fail
      refine (awake3_c _ hA.env).mono ?_
      rintro e w1 ⟨rfl, hb⟩
      have hA := hA.step hb
      clear hb
      go_wp2_with fail
      go_ret
      exact ⟨rfl, hA.below⟩
end Go.Proofs.Ytipcfdebbjfecaa
