/- The walk of bosketlaw3.SpotRises. -/
import Derived.Test.YtipcfdebbjfecaaDoorLawSpotBack
namespace Go.Proofs.YtipcfdebbjfecaaDoor
open Go.RowKit U Go.Proofs

theorem held_far {l : List UInt8} {p : Int} (h : (l.length : Int) ≤ p) : held l p = l.length := by unfold held; omega
theorem St_end {l : List UInt8} {q L C : Nat} (h : St l q L C) (hq : ¬ q < l.length) : at' l l.length = (L, C) ∧ lf l + 1 = L := by
  have hle := St_le h
  obtain rfl : q = l.length := by omega
  refine ⟨Sp_at h.1, ?_⟩
  have h1 := h.1.1
  rw [List.take_length] at h1
  exact h1.symm

set_option maxRecDepth 100000 in
set_option maxHeartbeats 1000000 in
theorem spotRises_c (l : List UInt8) (w : World) (hE : Env w) (hs : l.length ≤ 9223372036854775807) :
    Calls Tryd.prog 9 #[.string ⟨l.toArray⟩] w fun e w' => e = .returned (.bool true) ∧ Below w.heap.size w w' := by
  have hA := At.refl hE
  by_cases hl : 120 < l.length
  · go_enter Tryd.func9, Tryd.ntmps9
    go_wp2_with (go_at_call 29; refine (awake3_c _ hA.env).mono ?_; rintro e w1 ⟨rfl, hb⟩; have hA := hA.step hb; clear hb)
    go_ret
    exact ⟨rfl, hA.below⟩
  have hl2 : l.length ≤ 1073741824 := by omega
  by_cases hp : place l = -1
  · have HP := Lib.hid hp
    clear hp
    have h0 : at' l (held l (-5)) = (1, 1) := by
      rw [show held l (-5) = 0 by unfold held; omega]
      exact Sp_at (Sp_zero l)
    have H0 := Lib.hid h0
    clear h0
    go_enter Tryd.func9, Tryd.ntmps9
    go_wp2_with fail
    refine (place_c l _ hA.env hl2).mono ?_
    rw [HP.out]
    rintro e w1 ⟨rfl, hb⟩
    have hA := hA.step hb
    clear hb
    go_wp2_with fail
    refine (spotAt_c l (-5) _ hl2 (by omega) (by omega)).mono ?_
    rw [H0.out]
    rintro e w1 ⟨rfl, hb⟩
    have hA := hA.step hb
    clear hb
    go_wp2_with fail
    go_loopw [3, 4, 5] (fun A B i wr => ∃ k q a b : Nat, q < k ∧ k ≤ l.length + 1 ∧ A = .int .i64 a ∧ B = .int .i64 b ∧ i = .int .i64 k ∧ Hid (St l q a b) ∧ Hid (q < l.length → k ≤ q + (dec (l.drop q)).2) ∧ At w wr) (fun _ _ i _ => l.length + 1 - (intOf i).toNat)
    case atStart => exact ⟨1, 0, 1, 1, by omega, by omega, rfl, rfl, rfl, Lib.hid (St_zero HP.out), Lib.hid (fun _ => by have := dec_w_pos (l.drop 0); omega), hA⟩
    case round =>
      obtain ⟨k, q, a, b, hqk, hk, rfl, rfl, rfl, HS, HN, hA⟩ := hrel
      have hab := Sp_le HS.out.1
      by_cases hle : k ≤ l.length
      · have hq : q < l.length := by omega
        obtain ⟨n, hn⟩ : ∃ n, (dec (l.drop q)).2 = n := ⟨_, rfl⟩
        have hkn := HN.out hq
        obtain ⟨h1, h2, L', C', h3, h4⟩ := St_next HS.out hq hn
        rw [hn] at hkn
        have hgi := good_in hq (St_good HS.out hq) hqk
        rw [hn] at hgi
        have HG := Lib.hid hgi
        have HDN := Lib.hid hn
        clear hgi hn
        by_cases hlt : k < q + n
        · have hc2 := HG.out hlt
          have hc1 : k < l.length := by omega
          clear h3 h4
          go_wp2_with fail
          refine ⟨⟨k + 1, q, a, b, by omega, by omega, rfl, rfl, by go_num, HS, Lib.hid (fun _ => by have := HDN.out; omega), hA⟩, ?_⟩
          simp [intOf]; omega
        · obtain rfl : k = q + n := by omega
          generalize hqn : q + n = k at *
          have HQN := Lib.hid hqn
          clear hqn
          have H5 := Lib.hid (held_at hle)
          have H6 := Lib.hid (Sp_at h3.1)
          have H7 := Lib.hid h3
          have hgh : k < l.length → byt l k / 64 ≠ 2 := fun h => by
            have := good_head (St_good h3 h)
            rwa [byt_drop, Nat.add_zero] at this
          have HGH := Lib.hid hgh
          clear h3 hgh
          by_cases hc1 : k < l.length
          · have hc2 := HGH.out hc1
            rcases h4 with ⟨rfl, rfl⟩ | ⟨rfl, rfl⟩
            · go_wp2_with fail
              refine (spotAt_c l k _ hl2 (by omega) (by omega)).mono ?_
              rw [H5.out, H6.out]
              rintro e w2 ⟨rfl, hb⟩
              have hA := hA.step hb
              clear hb
              go_wp2_with fail
              refine ⟨⟨k + 1, k, _, _, by omega, by omega, by go_num, by go_num, by go_num, Lib.hid H7.out, Lib.hid (fun h => by have := dec_w_pos (l.drop k); omega), hA⟩, ?_⟩
              simp [intOf]; omega
            · go_wp2_with fail
              refine (spotAt_c l k _ hl2 (by omega) (by omega)).mono ?_
              rw [H5.out, H6.out]
              rintro e w2 ⟨rfl, hb⟩
              have hA := hA.step hb
              clear hb
              go_wp2_with fail
              refine ⟨⟨k + 1, k, _, _, by omega, by omega, by go_num, by go_num, by go_num, Lib.hid H7.out, Lib.hid (fun h => by have := dec_w_pos (l.drop k); omega), hA⟩, ?_⟩
              simp [intOf]; omega
          · rcases h4 with ⟨rfl, rfl⟩ | ⟨rfl, rfl⟩
            · go_wp2_with fail
              refine (spotAt_c l k _ hl2 (by omega) (by omega)).mono ?_
              rw [H5.out, H6.out]
              rintro e w2 ⟨rfl, hb⟩
              have hA := hA.step hb
              clear hb
              go_wp2_with fail
              refine ⟨⟨k + 1, k, _, _, by omega, by omega, by go_num, by go_num, by go_num, Lib.hid H7.out, Lib.hid (fun h => by have := dec_w_pos (l.drop k); omega), hA⟩, ?_⟩
              simp [intOf]; omega
            · go_wp2_with fail
              refine (spotAt_c l k _ hl2 (by omega) (by omega)).mono ?_
              rw [H5.out, H6.out]
              rintro e w2 ⟨rfl, hb⟩
              have hA := hA.step hb
              clear hb
              go_wp2_with fail
              refine ⟨⟨k + 1, k, _, _, by omega, by omega, by go_num, by go_num, by go_num, Lib.hid H7.out, Lib.hid (fun h => by have := dec_w_pos (l.drop k); omega), hA⟩, ?_⟩
              simp [intOf]; omega
      · have hq : ¬ q < l.length := by
          intro h
          have h1 := HN.out h
          have h2 := (St_next HS.out h rfl).2.1
          omega
        obtain ⟨h1, h2⟩ := St_end HS.out hq
        have h3 := held_far (l := l) (p := (l.length : Int) + 7) (by omega)
        have H1 := Lib.hid h1
        have H2 := Lib.hid h2
        have H3 := Lib.hid h3
        clear h1 h2 h3
        go_wp2_with fail
        refine (spotAt_c l ((l.length : Int) + 7) _ hl2 (by omega) (by omega)).mono ?_
        rw [H3.out, H1.out]
        rintro e w2 ⟨rfl, hb⟩
        have hA := hA.step hb
        clear hb
        go_wp2_with fail
        refine (spotLines_c l _ hl2).mono ?_
        rw [H2.out]
        rintro e w3 ⟨rfl, rfl⟩
        go_wp2_with fail
        refine (awake3_c _ hA.env).mono ?_
        rintro e w1 ⟨rfl, hb⟩
        have hA := hA.step hb
        clear hb
        go_wp2_with fail
        go_ret
        exact ⟨rfl, hA.below⟩
  · have hp2 : (place l != -1) = true := by simpa using hp
    go_enter Tryd.func9, Tryd.ntmps9
    go_wp2_with fail
    refine (place_c l _ hA.env hl2).mono ?_
    rintro e w1 ⟨rfl, hb⟩
    have hA := hA.step hb
    clear hb
    go_wp2_with fail
    refine (awake3_c _ hA.env).mono ?_
    rintro e w1 ⟨rfl, hb⟩
    have hA := hA.step hb
    clear hb
    go_wp2_with fail
    go_ret
    exact ⟨rfl, hA.below⟩
end Go.Proofs.YtipcfdebbjfecaaDoor
