/- The walk of bosketlaw3.SpotTells. -/
import Derived.Test.YtipcfdebbjfecaaLawSpot0
import Derived.Test.YtipcfdebbjfecaaWRefSpot
import Derived.Test.YtipcfdebbjfecaaWLow
namespace Go.Proofs.Ytipcfdebbjfecaa
open Go.RowKit U Go.Proofs

set_option maxRecDepth 100000 in
set_option maxHeartbeats 1000000 in
theorem spotTells_c (l : List UInt8) (p line col : Int) (w : World) (hE : Env w) (hs : l.length ≤ 9223372036854775807) (hp0 : -9223372036854775808 ≤ p) (hp1 : p ≤ 9223372036854775807) (_hl0 : -9223372036854775808 ≤ line) (_hl1 : line ≤ 9223372036854775807) (_hc0 : -9223372036854775808 ≤ col) (_hc1 : col ≤ 9223372036854775807) :
    Calls Try.prog 3 #[.string ⟨l.toArray⟩, .int .i64 p, .int .i64 line, .int .i64 col] w fun e w' => e = .returned (.bool true) ∧ Below w.heap.size w w' := by
  have hA := At.refl hE
  by_cases hl : 120 < l.length
  · go_enter Try.func3, Try.ntmps3
    go_wp2_with (go_at_call 5; refine (awake3_c _ hA.env).mono ?_; rintro e w1 ⟨rfl, hb⟩; have hA := hA.step hb; clear hb)
    go_ret
    exact ⟨rfl, hA.below⟩
  · have hl2 : l.length ≤ 1073741824 := by omega
    obtain ⟨a1, h1⟩ : ∃ x, (at' l (held l p)).1 = x := ⟨_, rfl⟩
    obtain ⟨a2, h2⟩ : ∃ x, (at' l (held l p)).2 = x := ⟨_, rfl⟩
    obtain ⟨b1, h3⟩ : ∃ x, (back l line col).1 = x := ⟨_, rfl⟩
    obtain ⟨b2, h4⟩ : ∃ x, (back l line col).2 = x := ⟨_, rfl⟩
    obtain ⟨x, h5⟩ : ∃ x, low line 5 = x := ⟨_, rfl⟩
    obtain ⟨y, h6⟩ : ∃ x, low col 9 = x := ⟨_, rfl⟩
    obtain ⟨c1, h7⟩ : ∃ z, (back l x y).1 = z := ⟨_, rfl⟩
    obtain ⟨c2, h8⟩ : ∃ z, (back l x y).2 = z := ⟨_, rfl⟩
    have hx := low_lt line 5 (by omega)
    have hy := low_lt col 9 (by omega)
    rw [h5] at hx
    rw [h6] at hy
    have hlf := lf_le l
    obtain ⟨m, h9⟩ : ∃ z, lf l + 1 = z := ⟨_, rfl⟩
    have H1 := Lib.hid h1
    have H2 := Lib.hid h2
    have H3 := Lib.hid h3
    have H4 := Lib.hid h4
    have H5 := Lib.hid h5
    have H6 := Lib.hid h6
    have H7 := Lib.hid h7
    have H8 := Lib.hid h8
    have H9 := Lib.hid h9
    clear h1 h2 h3 h4 h5 h6 h7 h8 h9
    go_enter Try.func3, Try.ntmps3
    go_wp2_with fail
    refine (spotAt_c l p _ hl2 hp0 hp1).mono ?_
    rw [H1.out, H2.out]
    rintro e w1 ⟨rfl, hb⟩
    have hA := hA.step hb
    clear hb
    go_wp2_with fail
    refine (refAt_c l p _ hl2 hp0 hp1).mono ?_
    rw [H1.out, H2.out]
    rintro e w1 ⟨rfl, hb⟩
    have hA := hA.step hb
    clear hb
    go_wp2_with fail
    refine (spotBack_c l line col _ hl2).mono ?_
    rw [H3.out, H4.out]
    rintro e w1 ⟨rfl, hb⟩
    have hA := hA.step hb
    clear hb
    go_wp2_with fail
    refine (refBack_c l line col _ hl2).mono ?_
    rw [H3.out, H4.out]
    rintro e w1 ⟨rfl, hb⟩
    have hA := hA.step hb
    clear hb
    go_wp2_with fail
    refine (low_c line 5 _ (by omega) (by omega)).mono ?_
    rw [H5.out]
    rintro e w1 ⟨rfl, rfl⟩
    go_wp2_with fail
    refine (low_c col 9 _ (by omega) (by omega)).mono ?_
    rw [H6.out]
    rintro e w1 ⟨rfl, rfl⟩
    go_wp2_with fail
    refine (spotBack_c l x y _ hl2).mono ?_
    rw [H7.out, H8.out]
    rintro e w1 ⟨rfl, hb⟩
    have hA := hA.step hb
    clear hb
    go_wp2_with fail
    refine (refBack_c l x y _ hl2).mono ?_
    rw [H7.out, H8.out]
    rintro e w1 ⟨rfl, hb⟩
    have hA := hA.step hb
    clear hb
    go_wp2_with fail
    refine (spotLines_c l _ hl2).mono ?_
    rw [H9.out]
    rintro e w1 ⟨rfl, rfl⟩
    go_wp2_with fail
    refine (refLines_c l _ hl2).mono ?_
    rw [H9.out]
    rintro e w1 ⟨rfl, rfl⟩
    go_wp2_with fail
    refine (awake3_c _ hA.env).mono ?_
    rintro e w1 ⟨rfl, hb⟩
    have hA := hA.step hb
    clear hb
    go_wp2_with fail
    go_ret
    exact ⟨rfl, hA.below⟩
end Go.Proofs.Ytipcfdebbjfecaa
