/- The walk of bosketlaw1.UtfsBack. -/
import Derived.Test.YtipcfdebbjfecaaDoorLawUtfsWhole
namespace Go.Proofs.YtipcfdebbjfecaaDoor
open Go.RowKit U Go.Proofs

theorem scal_fix {r : Int} (h : scal r = true) : fixr r = r := by
  simp only [scal, Bool.and_eq_true, Bool.or_eq_true, decide_eq_true_eq] at h
  unfold fixr
  rw [if_pos (by omega)]
theorem scal_bad {r : Int} (h : scal r = false) : fixr r = 65533 := by
  have : ¬ ((0 ≤ r ∧ r < 55296) ∨ (57343 < r ∧ r ≤ 1114111)) := by
    intro hh
    have : scal r = true := by
      simp only [scal, Bool.and_eq_true, Bool.or_eq_true, decide_eq_true_eq]
      omega
    rw [this] at h
    cases h
  unfold fixr
  rw [if_neg this]
theorem wf_I32 {xs : List Int} (h : ∀ x ∈ xs, (Lit.int .i32 x).wf = true) : I32 xs := by
  intro x hx
  have := h x hx
  simpa [Lit.wf, IntKind.min, IntKind.max, IntKind.signed, IntKind.bits] using this

/-- What 'want' reads as behind k rounds. -/
def half (xs : List Int) (k : Nat) : List Int := (xs.take k).map fixr ++ xs.drop k
theorem half_length (xs : List Int) (k : Nat) : (half xs k).length = xs.length := by simp [half]; omega
theorem half_zero (xs : List Int) : half xs 0 = xs := by simp [half]
theorem half_all (xs : List Int) (k : Nat) (h : xs.length ≤ k) : half xs k = xs.map fixr := by
  simp [half, List.take_of_length_le h, List.drop_eq_nil_of_le h]
theorem half_get (xs : List Int) (k : Nat) (h : k < xs.length) : (half xs k)[k]? = some (xs[k]'h) := by
  simp [half, List.getElem?_append, List.length_take, Nat.min_eq_left (Nat.le_of_lt h)]
theorem half_succ (xs : List Int) (k : Nat) (h : k < xs.length) : half xs (k + 1) = (half xs k).set k (fixr (xs[k]'h)) := by
  simp only [half]
  rw [List.set_append_right _ _ (by simp; omega), List.take_succ_eq_append_getElem h, List.map_append, List.append_assoc]
  have : xs.drop k = xs[k] :: xs.drop (k + 1) := List.drop_eq_getElem_cons h
  have hk : k - ((xs.take k).map fixr).length = 0 := by simp; omega
  rw [hk, this, List.set_cons_zero]
  simp
theorem half_same (xs : List Int) (k : Nat) (h : k < xs.length) (hf : fixr (xs[k]'h) = xs[k]'h) : half xs (k + 1) = half xs k := by
  rw [half_succ xs k h, hf]
  have hg := half_get xs k h
  apply List.ext_getElem?
  intro i
  by_cases hi : k = i
  · subst hi
    rw [List.getElem?_set_self (by rw [half_length]; exact h), hg]
  · rw [List.getElem?_set_ne hi]

set_option maxRecDepth 100000 in
set_option maxHeartbeats 1000000 in
theorem utfsBack_c (xs : List Int) (v : Value) (w : World) (hE : Env w) (hsl : Sl w v (xs.map fun x : Int => Value.int .i32 x)) (hwf : ∀ x ∈ xs, (Lit.int .i32 x).wf = true) (hs : xs.length ≤ 9223372036854775807) :
    Calls Tryd.prog 4 #[v] w fun e w' => e = .returned (.bool true) ∧ Below w.heap.size w w' := by
  have hA := At.refl hE
  have hx32 := wf_I32 hwf
  have hsl2 : Sl w v (i32s xs) := hsl
  obtain ⟨i0, hi, hz0, hz1, hz2⟩ := info_parts Tryd.infoI32
  clear hwf hsl
  obtain ⟨a, c, rfl, hcells⟩ := Sl.ints (k := .i32) hsl2
  clear hcells
  have HX := Lib.hid hx32
  clear hx32
  by_cases hl : 200 < xs.length
  · go_enter Tryd.func4, Tryd.ntmps4
    go_wp2_with (go_at_call 15; refine (awake1_c _ hA.env).mono ?_; rintro e w1 ⟨rfl, hb⟩; have hA := hA.step hb; clear hb)
    go_ret
    exact ⟨rfl, hA.below⟩
  · have hc3 : 0 + (i32s xs).length ≤ maxLen := by rw [i32s_length]; unfold maxLen; omega
    have hc4 : (0 + (i32s xs).length) * 4 ≤ 140737488355328 := by rw [i32s_length]; omega
    go_enter Tryd.func4, Tryd.ntmps4
    go_wp2_with fail
    refine (text_c xs _ _ hsl2 HX.out (by omega)).mono ?_
    rintro e w1 ⟨rfl, hb⟩
    have hA := hA.step hb
    have hsl3 := hsl2.below hb
    clear hb
    go_wp2_with (at_builtin; go_loud (refine wpList_append_sl rfl _ _ 25 rfl w.heap.size 21 i0 (.int .i32 0) 4 Tryd.underlying25 hi hz0 hz1 hz2 rfl (.slice none 0 0) 0 [] _ _ rfl (own_nil _ _ _) rfl hsl3 (i32s_one xs) hc3 hc4 hA.below hA.below.size ?_); intro v1 w2 hown1 hbw1 hgr1)
    have hown2 : w2.ownsRow w.heap.size 21 1 v1 xs.length (i32s (half xs 0)) := by
      rw [half_zero]
      simpa [i32s_length] using hown1
    have hA2 : At w w2 := hA.step (below_own hgr1)
    clear hown1 hbw1 hgr1 hA hsl3
    obtain ⟨a1, c1, hv1⟩ := own_shape hown2
    subst hv1
    go_loopw [5] (fun i wr => ∃ k : Nat, k ≤ xs.length ∧ i = .int .i64 k ∧ wr.ownsRow w.heap.size 21 1 (.slice a1 xs.length c1) xs.length (i32s (half xs k)) ∧ At w wr) (fun i _ => xs.length - (intOf i).toNat)
    case atStart => exact ⟨0, Nat.zero_le _, rfl, hown2, hA2⟩
    case round =>
      obtain ⟨k, hk, rfl, hown, hA⟩ := hrel
      have hsz := hA.below.size
      have hsl0 := hsl2
      clear hown2 hA2 hsl2
      by_cases hlt : k < xs.length
      · obtain ⟨g, cap, hform, hg1, hg2⟩ := hown.form (by omega)
        injection hform with h1 _ h3
        subst h1 h3
        have hcl : wr.cell? ⟨g, k, none⟩ = some (.int .i32 (xs[k]'hlt)) := by
          rw [hown.cellAt k (by omega)]
          simp [i32s, half_get xs k hlt]
        have hfz := hown.frozenAt k
        have hh1 := half_succ xs k hlt
        have hh2 := half_same xs k hlt
        obtain ⟨x, hx⟩ : ∃ x, xs[k]'hlt = x := ⟨_, rfl⟩
        rw [hx] at hcl hh1 hh2
        have H1 := Lib.hid hh1
        have H2 := Lib.hid hh2
        clear hx hh1 hh2
        cases hsc : scal x with
        | true =>
          have HS := Lib.hid hsc
          clear hsc
          go_wp2_with (go_at_call 24; refine (refScalar_c x _).mono ?_; rw [HS.out]; rintro e w3 ⟨rfl, rfl⟩)
          refine ⟨⟨k + 1, by omega, by go_num, ?_, hA⟩, ?_⟩
          · rw [H2.out (scal_fix HS.out)]; exact hown
          · simp [intOf]; omega
        | false =>
          have HS := Lib.hid hsc
          clear hsc
          have hst := hown.stored k (.int .i32 65533)
          go_wp2_with (go_at_call 24; refine (refScalar_c x _).mono ?_; rw [HS.out]; rintro e w3 ⟨rfl, rfl⟩)
          refine ⟨⟨k + 1, by omega, by go_num, ?_, hA.setCell (p := ⟨g, k, none⟩) hg1 _⟩, ?_⟩
          · rw [H1.out, scal_bad HS.out]
            have := hst.1
            simpa [i32s, List.map_set] using this
          · simp [intOf]; omega
      · obtain rfl : k = xs.length := by omega
        rw [half_all xs _ (Nat.le_refl _)] at hown
        have hw := Sl.own hown
        have hwl := enc_le xs
        have hpe := place_enc xs
        have hre := runes_enc xs
        have hml : (xs.map fixr).length = xs.length := by simp
        have hsl3 := hsl0.below hA.below
        go_wp2_with fail
        refine (refText_c xs _ _ hsl3 (by omega)).mono ?_
        rintro e w4 ⟨rfl, hb⟩
        have hA := hA.step hb
        have hw := hw.below hb
        clear hb hsl3
        go_wp2_with fail
        refine (place_c (enc xs) _ hA.env (by omega)).mono ?_
        rintro e w5 ⟨rfl, hb⟩
        have hA := hA.step hb
        have hw := hw.below hb
        clear hb
        go_wp2_with fail
        refine (runes_c (enc xs) _ (by omega)).mono ?_
        rw [hre]
        rintro e w6 ⟨a6, c6, rfl, hown6, hb⟩
        have hA := hA.step hb
        have hw := hw.below hb
        have hw6 := Sl.own hown6
        clear hb hown6
        go_wp2_with fail
        refine (eqRunes_c _ _ _ _ _ hw6 hw (by omega) (by omega)).mono ?_
        rintro e w7 ⟨rfl, hb⟩
        have hA := hA.step hb
        clear hb hw hw6
        go_wp2_with fail
        refine (awake1_c _ hA.env).mono ?_
        rintro e w8 ⟨rfl, hb⟩
        have hA := hA.step hb
        clear hb
        go_wp2_with fail
        go_ret
        exact ⟨rfl, hA.below⟩
end Go.Proofs.YtipcfdebbjfecaaDoor
