/- The walk of bosketlaw2.TextOnce. -/
import Derived.Test.YtipcfdebbjfecaaDoorLawText0
import Derived.Test.YtipcfdebbjfecaaDoorBytesOf
import Derived.Test.YtipcfdebbjfecaaDoorPText2
import Derived.Lib.AtoiErrMem
namespace Go.Proofs.YtipcfdebbjfecaaDoor
open Go.RowKit U Go.Proofs

/-- '[]byte(s)': the new row reads as the text's bytes. -/
theorem sl_bytesWorld (w : World) (e : TypeId) (l : List UInt8) (c : Nat) : Sl (Lib.bytesWorld w e ⟨l.toArray⟩) (.slice (some ⟨w.heap.size, 0, none⟩) l.length c) (Lib.byteCells l) := by
  have hl : (Lib.byteCells l).length = l.length := by simp [Lib.byteCells]
  by_cases h0 : l = []
  · subst h0
    exact Or.inl ⟨rfl, Or.inr ⟨_, _, rfl⟩⟩
  · refine Or.inr ⟨w.heap.size, 0, c, by intro hh; rw [hh] at hl; exact h0 (List.eq_nil_of_length_eq_zero hl.symm), by rw [hl], by rw [Lib.bytesWorld_size]; omega, fun i x hx => ?_⟩
    have hi : i < l.length := by have := (List.getElem?_eq_some_iff.1 hx).1; omega
    rw [Nat.zero_add, Lib.bytesWorld_cell w e ⟨l.toArray⟩ i hi]
    have h2 : (Lib.byteCells l)[i]? = some (.int .u8 (l.getD i 0).toNat) := by
      simp [Lib.byteCells, hi]
    rw [h2] at hx
    exact hx
theorem At.bytes {w0 w : World} (h : At w0 w) (e : TypeId) (s : ByteArray) : At w0 (Lib.bytesWorld w e s) := h.step (Lib.bytesWorld_below w e s)

set_option maxRecDepth 100000 in
set_option maxHeartbeats 1000000 in
theorem textOnce_c (xs : List Int) (v : Value) (w : World) (hE : Env w) (hsl : Sl w v (xs.map fun x : Int => Value.int .u8 x)) (hwf : ∀ x ∈ xs, (Lit.int .u8 x).wf = true) (hs : xs.length ≤ 9223372036854775807) :
    Calls Tryd.prog 12 #[v] w fun e w' => e = .returned (.bool true) ∧ Below w.heap.size w w' := by
  have hA := At.refl hE
  obtain ⟨l, hl, hlen⟩ := bytes_of xs hwf
  rw [hl] at hsl
  rw [← hlen] at hs
  clear hl hlen hwf
  obtain ⟨a, c, rfl⟩ := bytes_shape hsl
  by_cases hl : 400 < l.length
  · go_enter Tryd.func12, Tryd.ntmps12
    go_wp2_with (go_at_call 33; refine (awake2_c _ hA.env).mono ?_; rintro e w1 ⟨rfl, hb⟩; have hA := hA.step hb; clear hb)
    go_ret
    exact ⟨rfl, hA.below⟩
  by_cases hq : (clean l).2.2 = 0
  · obtain ⟨h13, hag, hle⟩ := clean_again hq
    obtain ⟨s, h1⟩ : ∃ x, (clean l).1 = x := ⟨_, rfl⟩
    obtain ⟨p, h2⟩ : ∃ x, (clean l).2.1 = x := ⟨_, rfl⟩
    rw [h1] at h13 hag hle
    have H1 := Lib.hid h1
    have H2 := Lib.hid h2
    have H3 := Lib.hid hq
    have HAG := Lib.hid hag
    have H13 := Lib.hid h13
    clear h1 h2 hq hag h13
    go_enter Tryd.func12, Tryd.ntmps12
    go_wp2_with fail
    refine (clean_c l _ _ hA.env hsl hs).mono ?_
    rw [H1.out, H2.out, H3.out]
    rintro e w1 ⟨rfl, hb⟩
    have hA := hA.step hb
    clear hb
    go_wp2_with fail
    go_loop [6] (fun i => ∃ k : Nat, k ≤ s.length ∧ i = .int .i64 k) (fun i => s.length - (intOf i).toNat)
    case atStart => exact ⟨0, Nat.zero_le _, rfl⟩
    case round =>
      obtain ⟨k, hk, rfl⟩ := hrel
      by_cases hlt : k < s.length
      · have hb : ((byt s k : Int) == 13) = false := by
          have := H13.out _ (List.getElem_mem hlt)
          rw [← byt_get s k hlt, beq_eq_false_iff_ne]
          intro hh
          exact this (UInt8.toNat.inj (by have h13 : (13 : UInt8).toNat = 13 := rfl; omega))
        go_wp2_with fail
        go_round
        case rel => exact ⟨k + 1, by omega, by go_num⟩
        case measure => simp [intOf]; omega
      · have hcv := fun (W : World) => Lib.run_convert_string_bytes (P := Tryd.prog) W 9 41 5 ⟨s.toArray⟩ (u := .string) Tryd.underlying9 Tryd.underlying41 Tryd.underlying5
        go_wp2_with fail
        have hA := hA.bytes 5 ⟨s.toArray⟩
        refine (clean_c s _ _ hA.env (sl_bytesWorld _ _ s _) (by omega)).mono ?_
        rw [HAG.out]
        rintro e w2 ⟨rfl, hb⟩
        have hA := hA.step hb
        clear hb
        go_wp2_with fail
        refine (awake2_c _ hA.env).mono ?_
        rintro e w3 ⟨rfl, hb⟩
        have hA := hA.step hb
        clear hb
        go_wp2_with fail
        go_ret
        exact ⟨rfl, hA.below⟩
  · have h1 := clean_err hq
    obtain ⟨p, h2⟩ : ∃ x, (clean l).2.1 = x := ⟨_, rfl⟩
    obtain ⟨q, h3⟩ : ∃ x, (clean l).2.2 = x := ⟨_, rfl⟩
    have hne : ((q : Int) == 0) = false := by rw [beq_eq_false_iff_ne]; omega
    have H1 := Lib.hid h1
    have H2 := Lib.hid h2
    have H3 := Lib.hid h3
    clear h1 h2 h3 hq
    go_enter Tryd.func12, Tryd.ntmps12
    go_wp2_with fail
    refine (clean_c l _ _ hA.env hsl hs).mono ?_
    rw [H1.out, H2.out, H3.out]
    rintro e w1 ⟨rfl, hb⟩
    have hA := hA.step hb
    clear hb
    go_wp2_with fail
    refine (awake2_c _ hA.env).mono ?_
    rintro e w1 ⟨rfl, hb⟩
    have hA := hA.step hb
    clear hb
    go_wp2_with fail
    go_ret
    exact ⟨rfl, hA.below⟩
end Go.Proofs.YtipcfdebbjfecaaDoor
