/- The walk of bosketlaw1.UtfsTells. -/
import Derived.Test.YtipcfdebbjfecaaDoorWRefU
import Derived.Test.YtipcfdebbjfecaaDoorWEnc
import Derived.Test.YtipcfdebbjfecaaDoorWUtfs
import Derived.Test.YtipcfdebbjfecaaDoorWText
import Derived.Test.YtipcfdebbjfecaaDoorWLaw0
namespace Go.Proofs.YtipcfdebbjfecaaDoor
open Go.RowKit U Go.Proofs

set_option maxRecDepth 100000 in
set_option maxHeartbeats 1000000 in
theorem awake1_c (w : World) (hE : Env w) :
    Calls Tryd.prog 15 #[] w fun e w' => e = .returned (.bool true) ∧ Below w.heap.size w w' := by
  have p1 : place [97, 255] = 1 := by decide
  have p2 : place [195, 169] = -1 := by decide
  have p3 : width [195, 169, 255] = 2 := by decide
  have p4 : enc (runes [195, 169]) = [195, 169] := by decide
  have p5 : enc [233, -1] = [195, 169, 239, 191, 189] := by decide
  have hA := At.refl hE
  go_enter Tryd.func15, Tryd.ntmps15
  go_wp2_with (first | (go_at_call 16; refine (place_c _ _ hA.env (by decide)).mono ?_; rintro e w1 ⟨rfl, hb⟩; have hA := hA.step hb; clear hb) | (go_at_call 21; refine (width_c _ _ (by decide)).mono ?_; rintro e w1 ⟨rfl, hb⟩; have hA := hA.step hb; clear hb))
  go_wp2_with (go_at_call 19; refine (runes_c _ _ (by decide)).mono ?_; rintro e w2 ⟨a, c, rfl, hown, hb⟩; have hA := hA.step hb; clear hb; have hcv := run_str_of_runes (P := Tryd.prog) 25 9 21 _ _ (Sl.own hown) Tryd.underlying25 Tryd.underlying21 Tryd.underlying9)
  have hA := hA.alloc (.cells #[.int .i32 233, .int .i32 (-1)] 21)
  go_wp2_with (go_at_call 23; refine (text_c [233, -1] _ _ (sl_new (i32s [233, -1]) (by simp [i32s])) (by intro x hx; simp at hx; omega) (by decide)).mono ?_; rintro e w3 ⟨rfl, hb⟩; have hA := hA.step hb; clear hb)
  go_ret
  exact ⟨rfl, hA.below⟩

set_option maxRecDepth 100000 in
set_option maxHeartbeats 1000000 in
theorem utfsTells_c (l : List UInt8) (w : World) (hE : Env w) (hs : l.length ≤ 9223372036854775807) :
    Calls Tryd.prog 3 #[.string ⟨l.toArray⟩] w fun e w' => e = .returned (.bool true) ∧ Below w.heap.size w w' := by
  have hA := At.refl hE
  have hrl0 : (runes l).length ≤ l.length := by rw [runes_length]; exact width_le l
  by_cases hl : 400 < l.length
  · go_enter Tryd.func3, Tryd.ntmps3
    go_wp2_with (go_at_call 15; refine (awake1_c _ hA.env).mono ?_; rintro e w1 ⟨rfl, hb⟩; have hA := hA.step hb; clear hb)
    go_ret
    exact ⟨rfl, hA.below⟩
  · have hrl : (runes l).length ≤ 2147483647 := by omega
    go_enter Tryd.func3, Tryd.ntmps3
    go_wp2_with (first | (go_at_call 16; refine (place_c l _ hA.env (by omega)).mono ?_; rintro e w1 ⟨rfl, hb⟩; have hA := hA.step hb; clear hb) | (go_at_call 17; refine (refPlace_c l _ (by omega)).mono ?_; rintro e w2 ⟨rfl, rfl⟩))
    go_wp2_with (go_at_call 19; refine (runes_c l _ (by omega)).mono ?_; rintro e w2 ⟨a, c, rfl, hown, hb⟩; have hA := hA.step hb; clear hb)
    go_wp2_with (go_at_call 20; refine (refRunes_c l _ (by omega)).mono ?_; rintro e w3 ⟨a2, c2, rfl, hown2, hb⟩; have hA := hA.step hb; have h1 := (Sl.own hown).below hb; have h2 := Sl.own hown2; clear hb hown hown2)
    go_wp2_with (go_at_call 18; refine (eqRunes_c _ _ _ _ _ h1 h2 hrl hrl).mono ?_; rintro e w4 ⟨rfl, hb⟩; have hA := hA.step hb; clear hb)
    go_wp2_with (first | (go_at_call 21; refine (width_c l _ (by omega)).mono ?_; rintro e w1 ⟨rfl, hb⟩; have hA := hA.step hb; clear hb) | (go_at_call 22; refine (refWidth_c l _ (by omega)).mono ?_; rintro e w1 ⟨rfl, hb⟩; have hA := hA.step hb; clear hb) | (go_at_call 15; refine (awake1_c _ hA.env).mono ?_; rintro e w1 ⟨rfl, hb⟩; have hA := hA.step hb; clear hb))
    go_ret
    exact ⟨rfl, hA.below⟩
end Go.Proofs.YtipcfdebbjfecaaDoor
