/- The walks of package quot: whites, last. -/
import Derived.Test.YtjfgcbikdibjeaaGreatDoorQuotMem
import Derived.Test.YtjfgcbikdibjeaaGreatDoorLong
import Derived.Deep.DeepCutAuto
namespace Go.Proofs.YtjfgcbikdibjeaaGreatDoor
open Go.RowKit U Go.Proofs

theorem dec_small {m : List UInt8} (h : (dec m).1 < 128) : byt m 0 < 128 := by
  rcases Nat.lt_or_ge (byt m 0) 128 with h1 | h1
  · exact h1
  · exfalso
    cases hb : bad m with
    | true => rw [dec_bad hb] at h; simp at h
    | false =>
      have h2 := one_good hb
      have h3 := one_eq m
      rw [h2] at h3
      have h4 := dec_w_pos m
      rw [h3] at h h4
      unfold oneN at h h4
      repeat' split at h
      all_goals first
        | omega
        | (simp_all; done)
        | (simp_all; omega)
theorem dec_white {m : List UInt8} {r n : Nat} (h : dec m = (r, n)) : (whN (byt m 0) = true ↔ r = 32 ∨ r = 9) ∧ (r = 32 ∨ r = 9 → n = 1) := by
  have key : byt m 0 < 128 → r = byt m 0 ∧ n = 1 := fun hb => by
    rw [dec_one m hb] at h
    exact ⟨(congrArg Prod.fst h).symm, (congrArg Prod.snd h).symm⟩
  have back : r < 128 → byt m 0 < 128 := fun hr => dec_small (by rw [h]; exact hr)
  refine ⟨⟨fun hw => ?_, fun hr => ?_⟩, fun hr => (key (back (by omega))).2⟩
  · have hw := of_decide_eq_true hw
    have := key (by omega)
    omega
  · have := key (back (by omega))
    exact decide_eq_true (by omega)
theorem run_drop (P : Nat → Bool) (l : List UInt8) (a p : Nat) : run P (l.drop a) p = run P l (a + p) := by
  unfold run
  rw [List.drop_drop]
set_option maxRecDepth 100000 in
set_option maxHeartbeats 2000000 in
theorem whites_c (l : List UInt8) (w : World) (_hs : l.length ≤ 1073741824) :
    Calls Tryz.prog 159 #[.string ⟨l.toArray⟩] w fun e w' => e = .returned (.int .i64 (run whN l 0)) ∧ Below w.heap.size w w' := by
  obtain ⟨S, hS⟩ : ∃ S, run whN l 0 = S := ⟨_, rfl⟩
  rw [hS]
  have HS := Lib.hid hS
  clear hS
  go_enter Tryz.func159, Tryz.ntmps159
  go_wp2_with fail
  generalize hK : w.heap.size = k at *
  have HK := Lib.hid hK
  have hb0 : Below k w (w.alloc (.stringIter ⟨l.toArray⟩ 0)) := by subst hK; exact (Below.refl _ _).alloc (Nat.le_refl _) _
  have hi0 : (w.alloc (.stringIter ⟨l.toArray⟩ 0)).heap[k]? = some (.stringIter ⟨l.toArray⟩ 0) := by subst hK; exact World.iter_heap w _ 0
  go_loopw [] (fun wr => ∃ pos : Nat, pos ≤ l.length ∧ wr.heap[k]? = some (.stringIter ⟨l.toArray⟩ pos) ∧ Below k w wr ∧ Hid (pos + run whN l pos = S)) (fun wr => l.length - wr.iterPos k)
  case atStart => exact ⟨0, Nat.zero_le _, hi0, hb0, Lib.hid (by rw [Nat.zero_add]; exact HS.out)⟩
  case round =>
    obtain ⟨pos, hp, hit, hB, HR⟩ := hrel
    by_cases hlt : pos < l.length
    · obtain ⟨r, n, HD, HU, hn1, hn2, hr, hnx, hit2, hbw2, hsz, hsz2⟩ := range_at Tryz.prog hit hlt hB (Nat.le_refl _)
      obtain ⟨W, hWW⟩ : ∃ W, W = wr.iterAt k ⟨l.toArray⟩ (pos + n) := ⟨_, rfl⟩
      rw [← hWW] at hnx hit2 hbw2
      have hip : wr.iterPos k = pos := iterPos_of hit
      have hip2 : W.iterPos k = pos + n := iterPos_of hit2
      have HIP := Lib.hid hip
      have HIP2 := Lib.hid hip2
      have HW := Lib.hid (dec_white HD.out)
      clear hWW hsz hsz2 hit hip hip2 HU HD
      have hit := hit2
      by_cases hw : r = 32 ∨ r = 9
      · have HR2 : Hid (pos + n + run whN l (pos + n) = S) := Lib.hid (by
          have h1 := HW.out.2 hw
          have h2 := HW.out.1.2 hw
          rw [byt_drop, Nat.add_zero] at h2
          rw [← HR.out, run_step hlt h2, h1]
          omega)
        clear HR HW
        rcases hw with rfl | rfl
        all_goals
          go_wp2_with fail
          refine ⟨⟨pos + n, by omega, hit, hbw2, HR2⟩, ?_⟩
          rw [HIP.out, HIP2.out]; omega
      · have HE : Hid (S = pos) := Lib.hid (by
          have h2 : whN (byt l pos) = false := by
            have h3 := HW.out.1
            rw [byt_drop, Nat.add_zero] at h3
            cases h : whN (byt l pos) with
            | false => rfl
            | true => exact absurd (h3.1 h) hw
          rw [← HR.out, run_stop h2]
          omega)
        have g1 : ((r : Int) != 32) = true := by simp; omega
        have g2 : ((r : Int) != 9) = true := by simp; omega
        clear HR HW hw
        go_wp2_with fail
        go_ret
        exact ⟨ret_int (by rw [HE.out]), by rw [HK.out]; exact hbw2⟩
    · have hnx := range_end Tryz.prog hit hlt
      have HE : Hid (S = l.length) := Lib.hid (by
        rw [← HR.out, run_end (by omega)]
        omega)
      go_wp2_with fail
      go_ret
      exact ⟨ret_int (by rw [HE.out]), by rw [HK.out]; exact hB⟩
set_option maxRecDepth 100000 in
set_option maxHeartbeats 2000000 in
theorem last_c {W0 w : World} {g : Nat} {l : List UInt8} {p : Nat} {n : Int} {q : Nat} {es : List (QR × Value)} {cs : List Value} {B rb cap : Nat} (h : QS0 W0 w g l p n q es cs B rb cap) (hc : es.length ≤ 1073741824) :
    Calls Tryz.prog 123 #[.pointer (some ⟨g, 0, none⟩)] w fun e w' => e = .returned (.pointer (some ⟨rb, es.length * 3, none⟩)) ∧ ∃ m, w' = w.drewN m := by
  obtain ⟨c0, c1, c2, c3, c4⟩ := h.cells
  have gw : IntKind.i64.wrap (((es.length + 1 : Nat) : Int) - 1) = (es.length : Int) := by rw [IntWalk.i64_in _ (by omega)]; omega
  clear h c0 c1 c2 c3
  go_enter Tryz.func123, Tryz.ntmps123
  go_wp2_with fail
  go_quiet (fail)
  go_wp2_with fail
  go_ret
  exact ⟨rfl, _, rfl⟩
end Go.Proofs.YtjfgcbikdibjeaaGreatDoor
