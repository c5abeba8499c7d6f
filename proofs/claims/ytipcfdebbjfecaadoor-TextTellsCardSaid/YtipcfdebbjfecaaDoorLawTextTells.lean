/- The walk of bosketlaw2.TextTells. -/
import Derived.Test.YtipcfdebbjfecaaDoorLawText0
import Derived.Test.YtipcfdebbjfecaaDoorWRefClean
import Derived.Test.YtipcfdebbjfecaaDoorBytesOf
namespace Go.Proofs.YtipcfdebbjfecaaDoor
open Go.RowKit U Go.Proofs

set_option maxRecDepth 100000 in
set_option maxHeartbeats 1000000 in
theorem textTells_c (xs : List Int) (v : Value) (w : World) (hE : Env w) (hsl : Sl w v (xs.map fun x : Int => Value.int .u8 x)) (hwf : ∀ x ∈ xs, (Lit.int .u8 x).wf = true) (hs : xs.length ≤ 9223372036854775807) :
    Calls Tryd.prog 10 #[v] w fun e w' => e = .returned (.bool true) ∧ Below w.heap.size w w' := by
  have hA := At.refl hE
  obtain ⟨l, hl, hlen⟩ := bytes_of xs hwf
  rw [hl] at hsl
  rw [← hlen] at hs
  clear hl hlen hwf
  obtain ⟨a, c, rfl⟩ := bytes_shape hsl
  by_cases hl : 400 < l.length
  · go_enter Tryd.func10, Tryd.ntmps10
    go_wp2_with (go_at_call 33; refine (awake2_c _ hA.env).mono ?_; rintro e w1 ⟨rfl, hb⟩; have hA := hA.step hb; clear hb)
    go_ret
    exact ⟨rfl, hA.below⟩
  obtain ⟨s, h1⟩ : ∃ x, (clean l).1 = x := ⟨_, rfl⟩
  obtain ⟨p, h2⟩ : ∃ x, (clean l).2.1 = x := ⟨_, rfl⟩
  obtain ⟨q, h3⟩ : ∃ x, (clean l).2.2 = x := ⟨_, rfl⟩
  have H1 := Lib.hid h1
  have H2 := Lib.hid h2
  have H3 := Lib.hid h3
  clear h1 h2 h3
  go_enter Tryd.func10, Tryd.ntmps10
  go_wp2_with fail
  refine (clean_c l _ _ hA.env hsl hs).mono ?_
  rw [H1.out, H2.out, H3.out]
  rintro e w1 ⟨rfl, hb⟩
  have hA := hA.step hb
  have hsl2 := hsl.below hb
  clear hb
  go_wp2_with fail
  refine (refClean_c l _ _ hA.env hsl2 hs).mono ?_
  rw [H1.out, H2.out, H3.out]
  rintro e w1 ⟨rfl, hb⟩
  have hA := hA.step hb
  clear hb
  go_wp2_with fail
  refine (awake2_c _ hA.env).mono ?_
  rintro e w1 ⟨rfl, hb⟩
  have hA := hA.step hb
  clear hb
  go_wp2_with fail
  go_ret
  exact ⟨rfl, hA.below⟩
end Go.Proofs.YtipcfdebbjfecaaDoor
