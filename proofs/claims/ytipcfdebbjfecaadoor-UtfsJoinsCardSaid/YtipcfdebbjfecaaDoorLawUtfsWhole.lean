/- The walk of bosketlaw1.UtfsWhole. -/
import Derived.Test.YtipcfdebbjfecaaDoorLawUtfsTells
import Derived.Test.YtipcfdebbjfecaaDoorPUtf2
namespace Go.Proofs.YtipcfdebbjfecaaDoor
open Go.RowKit U Go.Proofs

theorem i32_fix (r : Int) : -2147483648 ≤ fixr r ∧ fixr r ≤ 2147483647 := by unfold fixr; split <;> omega
theorem I32_fix {xs : List Int} (h : xs.map fixr = xs) : I32 xs := by
  intro x hx
  rw [← h] at hx
  obtain ⟨y, _, rfl⟩ := List.mem_map.1 hx
  exact i32_fix y

set_option maxRecDepth 100000 in
set_option maxHeartbeats 1000000 in
theorem utfsWhole_c (l : List UInt8) (w : World) (hE : Env w) (hs : l.length ≤ 9223372036854775807) :
    Calls Tryd.prog 5 #[.string ⟨l.toArray⟩] w fun e w' => e = .returned (.bool true) ∧ Below w.heap.size w w' := by
  have hA := At.refl hE
  by_cases hl : 300 < l.length
  · go_enter Tryd.func5, Tryd.ntmps5
    go_wp2_with (go_at_call 15; refine (awake1_c _ hA.env).mono ?_; rintro e w1 ⟨rfl, hb⟩; have hA := hA.step hb; clear hb)
    go_ret
    exact ⟨rfl, hA.below⟩
  · have hrl0 : (runes l).length ≤ l.length := by rw [runes_length]; exact width_le l
    have h32 := Lib.hid (I32_fix (runes_fix l))
    have hel := enc_le (runes l)
    have p2 := place_enc (runes l)
    have p3 := width_enc_runes l
    have p1 := Lib.hid (place_enc_runes l)
    generalize hT : enc (runes l) = t at *
    have HT := Lib.hid hT
    clear hT
    have hte : (t == l) = (place l == -1) := by
      rw [Bool.eq_iff_iff, beq_iff_eq, beq_iff_eq]
      exact p1.out
    have HTE := Lib.hid hte
    clear hte
    go_enter Tryd.func5, Tryd.ntmps5
    go_wp2_with (go_at_call 19; refine (runes_c l _ (by omega)).mono ?_; rintro e w2 ⟨a, c, rfl, hown, hb⟩; have hA := hA.step hb; have h1 := Sl.own hown; clear hb hown)
    go_wp2_with (go_at_call 23; refine (text_c (runes l) _ _ h1 h32.out (by omega)).mono ?_; rw [HT.out]; rintro e w3 ⟨rfl, hb⟩; have hA := hA.step hb; clear hb h1)
    go_wp2_with fail
    refine (place_c l _ hA.env (by omega)).mono ?_
    rintro e w1 ⟨rfl, hb⟩
    have hA := hA.step hb
    clear hb
    go_wp2_with fail
    refine (place_c t _ hA.env (by omega)).mono ?_
    rintro e w1 ⟨rfl, hb⟩
    have hA := hA.step hb
    clear hb
    go_wp2_with fail
    refine (width_c t _ (by omega)).mono ?_
    rintro e w1 ⟨rfl, hb⟩
    have hA := hA.step hb
    clear hb
    go_wp2_with fail
    refine (width_c l _ (by omega)).mono ?_
    rintro e w1 ⟨rfl, hb⟩
    have hA := hA.step hb
    clear hb
    go_wp2_with fail
    refine (awake1_c _ hA.env).mono ?_
    rintro e w1 ⟨rfl, hb⟩
    have hA := hA.step hb
    clear hb
    go_wp2_with fail
    go_ret
    exact ⟨rfl, hA.below⟩
end Go.Proofs.YtipcfdebbjfecaaDoor
