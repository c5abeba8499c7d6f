/- The walk of bosketlaw3.SpotBack. -/
import Derived.Test.YtipcfdebbjfecaaDoorLawSpot0
import Derived.Test.YtipcfdebbjfecaaDoorWUtfs
import Derived.Test.YtipcfdebbjfecaaDoorPSpot2
namespace Go.Proofs.YtipcfdebbjfecaaDoor
open Go.RowKit U Go.Proofs

theorem held_at {l : List UInt8} {k : Nat} (h : k ≤ l.length) : held l (k : Int) = k := by unfold held; omega

set_option maxRecDepth 100000 in
set_option maxHeartbeats 1000000 in
theorem spotBack_law (l : List UInt8) (w : World) (hE : Env w) (hs : l.length ≤ 9223372036854775807) :
    Calls Tryd.prog 8 #[.string ⟨l.toArray⟩] w fun e w' => e = .returned (.bool true) ∧ Below w.heap.size w w' := by
  have hA := At.refl hE
  by_cases hl : 120 < l.length
  · go_enter Tryd.func8, Tryd.ntmps8
    go_wp2_with (go_at_call 29; refine (awake3_c _ hA.env).mono ?_; rintro e w1 ⟨rfl, hb⟩; have hA := hA.step hb; clear hb)
    go_ret
    exact ⟨rfl, hA.below⟩
  have hl2 : l.length ≤ 1073741824 := by omega
  by_cases hp : place l = -1
  · have HP := Lib.hid hp
    clear hp
    go_enter Tryd.func8, Tryd.ntmps8
    go_wp2_with fail
    refine (place_c l _ hA.env hl2).mono ?_
    rw [HP.out]
    rintro e w1 ⟨rfl, hb⟩
    have hA := hA.step hb
    clear hb
    go_wp2_with fail
    go_loopw [3] (fun i wr => ∃ k : Nat, k ≤ l.length + 1 ∧ i = .int .i64 k ∧ At w wr) (fun i _ => l.length + 1 - (intOf i).toNat)
    case atStart => exact ⟨0, Nat.zero_le _, rfl, hA⟩
    case round =>
      obtain ⟨k, hk, rfl, hA⟩ := hrel
      by_cases hle : k ≤ l.length
      · by_cases hc : k < l.length ∧ byt l k / 64 = 2
        · obtain ⟨hc1, hc2⟩ := hc
          go_wp2_with fail
          refine ⟨⟨k + 1, by omega, by go_num, hA⟩, ?_⟩
          simp [intOf]; omega
        · obtain ⟨a, ha⟩ : ∃ a, (at' l k).1 = a := ⟨_, rfl⟩
          obtain ⟨b, hb⟩ : ∃ a, (at' l k).2 = a := ⟨_, rfl⟩
          have hbk := back_at HP.out hle (by omega)
          have hb1 : (back l (a : Int) (b : Int)).1 = k := by rw [← ha, ← hb, hbk]
          have hb2 : (back l (a : Int) (b : Int)).2 = true := by rw [← ha, ← hb, hbk]
          have H1 := Lib.hid ha
          have H2 := Lib.hid hb
          have H3 := Lib.hid hb1
          have H4 := Lib.hid hb2
          have H5 := Lib.hid (held_at hle)
          clear ha hb hbk hb1 hb2
          by_cases hc1 : k < l.length
          · have hc2 : byt l k / 64 ≠ 2 := fun h => hc ⟨hc1, h⟩
            clear hc
            go_wp2_with fail
            refine (spotAt_c l k _ hl2 (by omega) (by omega)).mono ?_
            rw [H5.out, H1.out, H2.out]
            rintro e w2 ⟨rfl, hb⟩
            have hA := hA.step hb
            clear hb
            go_wp2_with fail
            refine (spotBack_c l a b _ hl2).mono ?_
            rw [H3.out, H4.out]
            rintro e w3 ⟨rfl, hb⟩
            have hA := hA.step hb
            clear hb
            go_wp2_with fail
            refine ⟨⟨k + 1, by omega, by go_num, hA⟩, ?_⟩
            simp [intOf]; omega
          · clear hc
            go_wp2_with fail
            refine (spotAt_c l k _ hl2 (by omega) (by omega)).mono ?_
            rw [H5.out, H1.out, H2.out]
            rintro e w2 ⟨rfl, hb⟩
            have hA := hA.step hb
            clear hb
            go_wp2_with fail
            refine (spotBack_c l a b _ hl2).mono ?_
            rw [H3.out, H4.out]
            rintro e w3 ⟨rfl, hb⟩
            have hA := hA.step hb
            clear hb
            go_wp2_with fail
            refine ⟨⟨k + 1, by omega, by go_num, hA⟩, ?_⟩
            simp [intOf]; omega
      · go_wp2_with fail
        refine (awake3_c _ hA.env).mono ?_
        rintro e w1 ⟨rfl, hb⟩
        have hA := hA.step hb
        clear hb
        go_wp2_with fail
        go_ret
        exact ⟨rfl, hA.below⟩
  · have hp2 : (place l != -1) = true := by simpa using hp
    go_enter Tryd.func8, Tryd.ntmps8
    go_wp2_with fail
    refine (place_c l _ hA.env hl2).mono ?_
    rintro e w1 ⟨rfl, hb⟩
    have hA := hA.step hb
    clear hb
    go_wp2_with fail
    refine (awake3_c _ hA.env).mono ?_
    rintro e w1 ⟨rfl, hb⟩
    have hA := hA.step hb
    clear hb
    go_wp2_with fail
    go_ret
    exact ⟨rfl, hA.below⟩
end Go.Proofs.YtipcfdebbjfecaaDoor
