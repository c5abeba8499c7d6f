/- The walk of bosketlaw10.DireAgain. -/
import Derived.Test.YtjnmgmepolpcdaaDoorLawDire0
import Derived.Test.YtjnmgmepolpcdaaDoorPDire3
namespace Go.Proofs.YtjnmgmepolpcdaaDoor
open Go.RowKit U Go.Proofs

theorem read_is (l d t : List UInt8) (b : Bool) (n : Int) (w0 w : World) (hA : At w0 w) (hs : l.length ≤ 1000000) (h : readM l = (d, t, b, n)) :
    Calls Tryd.prog 33 #[.string ⟨l.toArray⟩] w fun e w' => e = .returned (.tuple #[.string ⟨d.toArray⟩, .string ⟨t.toArray⟩, .bool b, .int .i64 n]) ∧ At w0 w' := by
  refine (read_c l w hA.env hs).mono ?_
  rw [h]
  rintro e w' ⟨rfl, hb⟩
  exact ⟨rfl, hA.step hb⟩
theorem readM_len {l : List UInt8} (h : (readM l).2.2.2 = 0) (hl : l.length ≤ 80) : (readM l).1.length ≤ 7000 := by
  obtain ⟨_, _, _, h4⟩ := readM_rest h
  rw [h4]
  have hb : (bodyOf l).length ≤ 80 := by
    unfold bodyOf
    split
    · rw [List.length_take]; omega
    · exact hl
  obtain ⟨h5, h6⟩ := wordsF_len (bodyOf l) []
  have h7 := join_len 80 (wordsM (bodyOf l)) (fun x hx => by have := h6 x hx; simp at this; omega)
  have h8 : (wordsM (bodyOf l)).length ≤ 81 := by unfold wordsM; omega
  have := Nat.mul_le_mul_right (80 + 1) h8
  omega
theorem readM_bad {l : List UInt8} (h : (readM l).2.2.2 ≠ 0) : (readM l).1 = [] := by
  unfold readM at h ⊢
  split
  · rfl
  · rename_i h0
    rw [if_neg h0] at h
    split
    · rename_i hc
      rw [if_pos hc] at h
      unfold restM at h ⊢
      split
      · rename_i hr
        rw [if_pos hr] at h
        exact absurd rfl h
      · rfl
    · rename_i hc
      rw [if_neg hc] at h
      unfold restM at h ⊢
      split
      · rename_i hr
        rw [if_pos hr] at h
        exact absurd rfl h
      · rfl
theorem take_one (d : List UInt8) (k : Nat) (h : k < d.length) : (d.drop k).take 1 = [d[k]'h] := by
  rw [List.drop_eq_getElem_cons h]; rfl
set_option maxRecDepth 100000 in
set_option maxHeartbeats 8000000 in
theorem direAgain_c (l : List UInt8) (tab : Bool) (w : World) (hE : Env w) (hs : l.length ≤ 9223372036854775807) :
    Calls Tryd.prog 12 #[.string ⟨l.toArray⟩, .bool tab] w fun e w' => e = .returned (.bool true) ∧ Below w.heap.size w w' := by
  have hA := At.refl hE
  by_cases hl : 80 < l.length
  · go_enter Tryd.func12, Tryd.ntmps12
    go_wp2_with (go_at_call 32; refine (awake10_c _ hA.env).mono ?_; rintro e w1 ⟨rfl, hb⟩; have hA := hA.step hb; clear hb)
    go_ret
    exact ⟨rfl, hA.below⟩
  by_cases hq : (readM l).2.2.2 = 0
  · have hagain := fun e he => read_again hq (e := e) he
    have hdl := readM_len hq (by omega)
    have hr : readM l = ((readM l).1, (readM l).2.1, (readM l).2.2.1, 0) := by rw [← hq]
    have HR := Lib.hid hr
    have HAG := Lib.hid hagain
    clear hq hr hagain
    generalize (readM l).1 = d at *
    generalize (readM l).2.1 = r2 at *
    generalize (readM l).2.2.1 = r3 at *
    cases tab with
    | false =>
      go_enter Tryd.func12, Tryd.ntmps12
      go_wp2_with fail
      refine (read_is l d r2 r3 0 _ _ hA (by omega) HR.out).mono ?_
      rintro e w1 ⟨rfl, hA⟩
      go_wp2_with fail
      obtain ⟨hg1, hg2⟩ := HAG.out [32] (.inl rfl)
      have HG1 := Lib.hid hg1
      have HG2 := Lib.hid hg2
      clear hg1 hg2
      go_loop [10, 11] (fun t i => ∃ k : Nat, k ≤ d.length ∧ t = .string ⟨(spread [32] (d.take k)).toArray⟩ ∧ i = .int .i64 k) (fun _ i => d.length - (intOf i).toNat)
      case atStart => exact ⟨0, Nat.zero_le _, rfl, rfl⟩
      case round =>
        obtain ⟨k, hk, rfl, rfl⟩ := hrel
        have hsl := spread_len [32] 2 (by decide) (d.take k)
        have htl : (d.take k).length ≤ 7000 := by rw [List.length_take]; omega
        have hsl2 : (spread [32] (d.take k)).length ≤ 21000 := by omega
        clear hsl
        by_cases hlt : k < d.length
        · have htk : d.take (k + 1) = d.take k ++ [d[k]'hlt] := List.take_succ_eq_append_getElem hlt
          have h1 := take_one d k hlt
          have hsp : spread [32] (d.take (k + 1)) = spread [32] (d.take k) ++ (if d[k]'hlt = 32 then [32] ++ [d[k]'hlt] else [d[k]'hlt]) := by rw [htk, spread_snoc]
          rw [← h1] at hsp
          have hgb := byt_get d k hlt
          by_cases h32 : byt d k = 32
          · have hd32 : d[k]'hlt = 32 := UInt8.toNat.inj (by rw [hgb]; exact h32)
            rw [if_pos hd32] at hsp
            have HSP := Lib.hid hsp
            have g32 : ((byt d k : Int) == 32) = true := by rw [beq_iff_eq]; omega
            clear hsp hd32 h32 hgb h1 htk
            go_wp2_with fail
            go_round
            case rel => exact ⟨k + 1, by omega, by rw [HSP.out]; simp, by go_num⟩
            case measure => simp [intOf]; omega
          · have hd32 : ¬ d[k]'hlt = 32 := fun hh => h32 (by rw [← hgb, hh]; rfl)
            rw [if_neg hd32] at hsp
            have HSP := Lib.hid hsp
            have g32 : ((byt d k : Int) == 32) = false := by rw [beq_eq_false_iff_ne]; omega
            clear hsp hd32 h32 hgb h1 htk
            go_wp2_with fail
            go_round
            case rel => exact ⟨k + 1, by omega, by rw [HSP.out], by go_num⟩
            case measure => simp [intOf]; omega
        · obtain rfl : k = d.length := by omega
          rw [List.take_length] at hsl2 ⊢
          generalize hS : spread [32] d = s at *
          clear hS
          go_wp2_with fail
          refine (read_is _ d [] false 0 _ _ hA ?_ HG1.out).mono ?_
          · simp; omega
          rintro e w2 ⟨rfl, hA⟩
          go_wp2_with fail
          refine (read_is _ d [113] true 0 _ _ hA ?_ (by have h := HG2.out; simpa using h)).mono ?_
          · simp; omega
          rintro e w3 ⟨rfl, hA⟩
          go_wp2_with fail
          refine (awake10_c _ hA.env).mono ?_
          rintro e w4 ⟨rfl, hb⟩
          have hA := hA.step hb
          clear hb
          go_wp2_with fail
          go_ret
          exact ⟨rfl, hA.below⟩
    | true =>
      go_enter Tryd.func12, Tryd.ntmps12
      go_wp2_with fail
      refine (read_is l d r2 r3 0 _ _ hA (by omega) HR.out).mono ?_
      rintro e w1 ⟨rfl, hA⟩
      go_wp2_with fail
      obtain ⟨hg1, hg2⟩ := HAG.out [9, 32] (.inr rfl)
      have HG1 := Lib.hid hg1
      have HG2 := Lib.hid hg2
      clear hg1 hg2
      go_loop [10, 11] (fun t i => ∃ k : Nat, k ≤ d.length ∧ t = .string ⟨(spread [9, 32] (d.take k)).toArray⟩ ∧ i = .int .i64 k) (fun _ i => d.length - (intOf i).toNat)
      case atStart => exact ⟨0, Nat.zero_le _, rfl, rfl⟩
      case round =>
        obtain ⟨k, hk, rfl, rfl⟩ := hrel
        have hsl := spread_len [9, 32] 2 (by decide) (d.take k)
        have htl : (d.take k).length ≤ 7000 := by rw [List.length_take]; omega
        have hsl2 : (spread [9, 32] (d.take k)).length ≤ 21000 := by omega
        clear hsl
        by_cases hlt : k < d.length
        · have htk : d.take (k + 1) = d.take k ++ [d[k]'hlt] := List.take_succ_eq_append_getElem hlt
          have h1 := take_one d k hlt
          have hsp : spread [9, 32] (d.take (k + 1)) = spread [9, 32] (d.take k) ++ (if d[k]'hlt = 32 then [9, 32] ++ [d[k]'hlt] else [d[k]'hlt]) := by rw [htk, spread_snoc]
          rw [← h1] at hsp
          have hgb := byt_get d k hlt
          by_cases h32 : byt d k = 32
          · have hd32 : d[k]'hlt = 32 := UInt8.toNat.inj (by rw [hgb]; exact h32)
            rw [if_pos hd32] at hsp
            have HSP := Lib.hid hsp
            have g32 : ((byt d k : Int) == 32) = true := by rw [beq_iff_eq]; omega
            clear hsp hd32 h32 hgb h1 htk
            go_wp2_with fail
            go_round
            case rel => exact ⟨k + 1, by omega, by rw [HSP.out]; simp, by go_num⟩
            case measure => simp [intOf]; omega
          · have hd32 : ¬ d[k]'hlt = 32 := fun hh => h32 (by rw [← hgb, hh]; rfl)
            rw [if_neg hd32] at hsp
            have HSP := Lib.hid hsp
            have g32 : ((byt d k : Int) == 32) = false := by rw [beq_eq_false_iff_ne]; omega
            clear hsp hd32 h32 hgb h1 htk
            go_wp2_with fail
            go_round
            case rel => exact ⟨k + 1, by omega, by rw [HSP.out], by go_num⟩
            case measure => simp [intOf]; omega
        · obtain rfl : k = d.length := by omega
          rw [List.take_length] at hsl2 ⊢
          generalize hS : spread [9, 32] d = s at *
          clear hS
          go_wp2_with fail
          refine (read_is _ d [] false 0 _ _ hA ?_ HG1.out).mono ?_
          · simp; omega
          rintro e w2 ⟨rfl, hA⟩
          go_wp2_with fail
          refine (read_is _ d [113] true 0 _ _ hA ?_ (by have h := HG2.out; simpa using h)).mono ?_
          · simp; omega
          rintro e w3 ⟨rfl, hA⟩
          go_wp2_with fail
          refine (awake10_c _ hA.env).mono ?_
          rintro e w4 ⟨rfl, hb⟩
          have hA := hA.step hb
          clear hb
          go_wp2_with fail
          go_ret
          exact ⟨rfl, hA.below⟩
  · have h1 := readM_bad hq
    have hr : readM l = ([], (readM l).2.1, (readM l).2.2.1, (readM l).2.2.2) := by rw [← h1]
    have HR := Lib.hid hr
    have hne : (((readM l).2.2.2 : Int) != 0) = true := by rw [bne_iff_ne]; exact hq
    clear hq hr h1
    generalize (readM l).2.1 = r2 at *
    generalize (readM l).2.2.1 = r3 at *
    generalize (readM l).2.2.2 = r4 at *
    go_enter Tryd.func12, Tryd.ntmps12
    go_wp2_with fail
    refine (read_is l [] r2 r3 r4 _ _ hA (by omega) HR.out).mono ?_
    rintro e w1 ⟨rfl, hA⟩
    go_wp2_with fail
    refine (awake10_c _ hA.env).mono ?_
    rintro e w4 ⟨rfl, hb⟩
    have hA := hA.step hb
    clear hb
    go_wp2_with fail
    go_ret
    exact ⟨rfl, hA.below⟩
end Go.Proofs.YtjnmgmepolpcdaaDoor
