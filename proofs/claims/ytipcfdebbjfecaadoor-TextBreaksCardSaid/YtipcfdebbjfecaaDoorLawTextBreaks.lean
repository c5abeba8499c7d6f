/- The walk of bosketlaw2.TextBreaks. -/
import Derived.Test.YtipcfdebbjfecaaDoorLawTextOnce
import Derived.Test.YtipcfdebbjfecaaDoorWWord
import Derived.Test.YtipcfdebbjfecaaDoorPText3
namespace Go.Proofs.YtipcfdebbjfecaaDoor
open Go.RowKit U Go.Proofs

theorem words_fine : ∀ x ∈ wordList, x ≠ [] ∧ (∀ b ∈ x, b ≠ 13 ∧ b ≠ 10) ∧ wrong x = -1 := by decide
theorem wordOf_br (n : Int) : wordOf n ≠ [] ∧ ∀ x ∈ wordOf n, x ≠ 13 ∧ x ≠ 10 := ⟨(words_fine _ (wordOf_mem n)).1, (words_fine _ (wordOf_mem n)).2.1⟩
theorem wordOf_fine (n : Int) : Fine (wordOf n) := (words_fine _ (wordOf_mem n)).2.2
/-- How the i-th row ends. -/
def endK (es : List Int) (i : Nat) : Nat := if h : i < es.length then low (es[i]'h) 3 else 0
theorem endK_lt (es : List Int) (i : Nat) : endK es i < 3 := by
  unfold endK
  split
  · exact low_lt _ 3 (by omega)
  · omega
/-- The first k rows. -/
def rowsK (xs es : List Int) (k : Nat) : List (Int × Nat) := (List.range k).map fun i => (xs.getD i 0, endK es i)
theorem rowsK_succ (xs es : List Int) (k : Nat) (hk : k < xs.length) : rowsK xs es (k + 1) = rowsK xs es k ++ [(xs[k]'hk, endK es k)] := by
  simp [rowsK, List.range_succ, hk]
theorem endOf_le (k : Nat) : (endOf k).length ≤ 2 := by unfold endOf; split <;> (try split) <;> simp
theorem brk_le (ps : List (Int × Nat)) : (brk wordOf ps).length ≤ 5 * ps.length ∧ (brkN wordOf ps).length ≤ 4 * ps.length := by
  induction ps with
  | nil => simp [brk, brkN]
  | cons p ps ih =>
    have h1 := wordOf_len p.1
    have h2 := endOf_le p.2
    rw [brk_cons, brkN_cons]
    simp
    omega
def markOf (b : Bool) : List UInt8 := if b then bom else []

set_option maxRecDepth 100000 in
set_option maxHeartbeats 2000000 in
theorem textBreaks_c (xs : List Int) (v : Value) (es : List Int) (v2 : Value) (mark : Bool) (w : World) (hE : Env w) (hsl : Sl w v (xs.map fun x : Int => Value.int .i64 x)) (_hwf : ∀ x ∈ xs, (Lit.int .i64 x).wf = true) (hs : xs.length ≤ 9223372036854775807)
    (hsl2 : Sl w v2 (es.map fun x : Int => Value.int .i64 x)) (_hwf2 : ∀ x ∈ es, (Lit.int .i64 x).wf = true) (_hs2 : es.length ≤ 9223372036854775807) :
    Calls Tryd.prog 13 #[v, v2, .bool mark] w fun e w' => e = .returned (.bool true) ∧ Below w.heap.size w w' := by
  have hA := At.refl hE
  obtain ⟨a, c, rfl, hcells⟩ := Sl.ints (k := .i64) hsl
  obtain ⟨a2, c2, rfl, hcells2⟩ := Sl.ints (k := .i64) hsl2
  have HC := Lib.hid hcells
  have HC2 := Lib.hid hcells2
  clear hcells hsl hcells2 hsl2
  by_cases hl : 12 < xs.length
  · go_enter Tryd.func13, Tryd.ntmps13
    go_wp2_with (go_at_call 33; refine (awake2_c _ hA.env).mono ?_; rintro e w1 ⟨rfl, hb⟩; have hA := hA.step hb; clear hb)
    go_ret
    exact ⟨rfl, hA.below⟩
  have hcl := clean_brk wordOf wordOf_br wordOf_fine (rowsK xs es xs.length) (by have := (brk_le (rowsK xs es xs.length)).1; simp [rowsK] at this ⊢; omega) mark
  have hcl2 : clean (markOf mark ++ brk wordOf (rowsK xs es xs.length)) = (brkN wordOf (rowsK xs es xs.length), 0, 0) := hcl
  have hml : (markOf mark).length ≤ 3 := by unfold markOf; split <;> decide
  have HM0 := Lib.hid (show markOf mark = if mark then [239, 187, 191] else [] from rfl)
  have HCL := Lib.hid hcl2
  clear hcl hcl2
  cases mark
  all_goals
    generalize hM : markOf _ = m at *
    clear hM
    have HM := HM0
    clear HM0
    go_enter Tryd.func13, Tryd.ntmps13
    go_wp2_with fail
    go_loopw [7, 8, 9, 10, 11] (fun s t i _ _ wr => ∃ k : Nat, k ≤ xs.length ∧ s = .string ⟨(m ++ brk wordOf (rowsK xs es k)).toArray⟩ ∧ t = .string ⟨(brkN wordOf (rowsK xs es k)).toArray⟩ ∧ i = .int .i64 k ∧ At w wr) (fun _ _ i _ _ _ => xs.length - (intOf i).toNat)
    case atStart => exact ⟨0, Nat.zero_le _, by rw [HM.out]; rfl, rfl, rfl, hA⟩
    case round =>
      obtain ⟨k, hk, rfl, rfl, rfl, hA⟩ := hrel
      by_cases hlt : k < xs.length
      · obtain ⟨b, off, rfl, hb, hck0⟩ := HC.out k hlt
        have hck : wr.cell? ⟨b, off + k, none⟩ = some (.int .i64 (xs[k]'hlt)) := (hA.below.cell (p := ⟨b, off + k, none⟩) hb).trans hck0
        have hrs := rowsK_succ xs es k hlt
        have hen := endK_lt es k
        have hle := brk_le (rowsK xs es k)
        have hrl : (rowsK xs es k).length = k := by simp [rowsK]
        rw [hrl] at hle
        generalize hX : (xs[k]'hlt) = x at *
        clear hX hck0 hrl
        have hwl := (wordOf_len x).2
        have hB1 : brk wordOf (rowsK xs es (k + 1)) = brk wordOf (rowsK xs es k) ++ wordOf x ++ endOf (endK es k) := by rw [hrs, brk_snoc]
        have hB2 : brkN wordOf (rowsK xs es (k + 1)) = brkN wordOf (rowsK xs es k) ++ wordOf x ++ [10] := by rw [hrs, brkN_snoc]
        have HB1 := Lib.hid hB1
        have HB2 := Lib.hid hB2
        clear hrs hB1 hB2
        by_cases he : k < es.length
        · obtain ⟨b2, off2, rfl, hb2, hck20⟩ := HC2.out k he
          have hck2 : wr.cell? ⟨b2, off2 + k, none⟩ = some (.int .i64 (es[k]'he)) := (hA.below.cell (p := ⟨b2, off2 + k, none⟩) hb2).trans hck20
          have hee : endK es k = low (es[k]'he) 3 := by unfold endK; rw [dif_pos he]
          generalize hY : (es[k]'he) = y at *
          clear hY hck20
          rw [hee] at hen HB1
          clear hee
          generalize hJ : low y 3 = j at *
          have HJ := Lib.hid hJ
          clear hJ
          have hj : j = 0 ∨ j = 1 ∨ j = 2 := by omega
          rcases hj with rfl | rfl | rfl
          all_goals
            go_wp2_with fail
            refine (low_c y 3 _ (by omega) (by omega)).mono ?_
            rw [HJ.out]
            rintro e w1 ⟨rfl, rfl⟩
            go_wp2_with fail
            refine (word_c x _).mono ?_
            rintro e w1 ⟨rfl, hb1⟩
            have hA := hA.step hb1
            clear hb1
            go_wp2_with fail
            refine ⟨⟨k + 1, by omega, by rw [HB1.out]; simp [endOf], by rw [HB2.out]; simp, by go_num, hA.alloc _⟩, ?_⟩
            simp [intOf]; omega
        · have hee : endK es k = 0 := by unfold endK; rw [dif_neg he]
          rw [hee] at HB1
          clear hee hen
          go_wp2_with fail
          refine (word_c x _).mono ?_
          rintro e w1 ⟨rfl, hb1⟩
          have hA := hA.step hb1
          clear hb1
          go_wp2_with fail
          refine ⟨⟨k + 1, by omega, by rw [HB1.out]; simp [endOf], by rw [HB2.out]; simp, by go_num, hA.alloc _⟩, ?_⟩
          simp [intOf]; omega
      · obtain rfl : k = xs.length := by omega
        have hle := brk_le (rowsK xs es xs.length)
        have hrl : (rowsK xs es xs.length).length = xs.length := by simp [rowsK]
        rw [hrl] at hle
        clear hrl HM
        obtain ⟨t, ht⟩ : ∃ t, brkN wordOf (rowsK xs es xs.length) = t := ⟨_, rfl⟩
        obtain ⟨s, hs⟩ : ∃ s, m ++ brk wordOf (rowsK xs es xs.length) = s := ⟨_, rfl⟩
        have hsz : s.length ≤ 100 := by rw [← hs, List.length_append]; omega
        rw [ht] at HCL hle ⊢
        rw [hs] at HCL ⊢
        clear ht hs hle
        have hcv := fun (W : World) => Lib.run_convert_string_bytes (P := Tryd.prog) W 9 41 5 ⟨s.toArray⟩ (u := .string) Tryd.underlying9 Tryd.underlying41 Tryd.underlying5
        go_wp2_with fail
        have hA := hA.bytes 5 ⟨s.toArray⟩
        refine (clean_c s _ _ hA.env (sl_bytesWorld _ _ s _) (by omega)).mono ?_
        rw [HCL.out]
        rintro e w2 ⟨rfl, hb⟩
        have hA := hA.step hb
        clear hb
        go_wp2_with fail
        refine (awake2_c _ hA.env).mono ?_
        rintro e w3 ⟨rfl, hb⟩
        have hA := hA.step hb
        clear hb
        go_wp2_with fail
        go_ret
        exact ⟨rfl, hA.below⟩
end Go.Proofs.YtipcfdebbjfecaaDoor
