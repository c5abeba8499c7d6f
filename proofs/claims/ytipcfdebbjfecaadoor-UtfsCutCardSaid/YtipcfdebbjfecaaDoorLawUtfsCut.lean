/- The walk of bosketlaw1.UtfsCut. -/
import Derived.Test.YtipcfdebbjfecaaDoorLawUtfsTells
import Derived.Test.YtipcfdebbjfecaaDoorPCut
namespace Go.Proofs.YtipcfdebbjfecaaDoor
open Go.RowKit U Go.Proofs

theorem scalarOf_ok (n : Int) : scalarOf n < 55296 ∨ (57343 < scalarOf n ∧ scalarOf n ≤ 1114111) := by
  have := low_lt n 1114112 (by omega)
  unfold scalarOf
  split <;> omega

set_option maxRecDepth 100000 in
set_option maxHeartbeats 1000000 in
theorem utfsCut_c (n at' : Int) (w : World) (hE : Env w) (_hn0 : -9223372036854775808 ≤ n) (_hn1 : n ≤ 9223372036854775807) (_ha0 : -9223372036854775808 ≤ at') (_ha1 : at' ≤ 9223372036854775807) :
    Calls Tryd.prog 7 #[.int .i64 n, .int .i64 at'] w fun e w' => e = .returned (.bool true) ∧ Below w.heap.size w w' := by
  have hA := At.refl hE
  have hok := scalarOf_ok n
  generalize hr : scalarOf n = r at *
  have HR := Lib.hid hr
  clear hr
  have hel := Lib.runeCells_le (r : Int)
  rw [Lib.runeCells_length] at hel
  have hes : enc [(r : Int)] = Lib.encodeRune r := by rw [enc_cons]; simp [enc]
  by_cases h128 : r < 128
  · have hl1 : (Lib.encodeRune r).length = 1 := by
      unfold Lib.encodeRune; rw [Lib.encodeRuneZ_one (by omega) (by omega)]; rfl
    rw [← hes] at hl1
    generalize hS : enc [(r : Int)] = s at *
    have HS := Lib.hid hS
    clear hS hes hel
    go_enter Tryd.func7, Tryd.ntmps7
    go_wp2_with (go_at_call 27; refine (scalar_c n _).mono ?_; rw [HR.out]; rintro e w1 ⟨rfl, rfl⟩)
    have hA := hA.alloc (.cells #[.int .i32 r] 21)
    go_wp2_with (go_at_call 23; refine (text_c [(r : Int)] _ _ (sl_new (i32s [(r : Int)]) (by simp [i32s])) (by intro x hx; simp at hx; omega) (by simp)).mono ?_; rw [HS.out]; rintro e w3 ⟨rfl, hb⟩; have hA := hA.step hb; clear hb)
    go_wp2_with (go_at_call 15; refine (awake1_c _ hA.env).mono ?_; rintro e w1 ⟨rfl, hb⟩; have hA := hA.step hb; clear hb)
    go_ret
    exact ⟨rfl, hA.below⟩
  · obtain ⟨hh, hc⟩ := enc_head r (by omega) hok
    rw [← hes] at hh hc
    have hl2 : 2 ≤ (enc [(r : Int)]).length ∧ (enc [(r : Int)]).length ≤ 4 := by unfold headOf at hh; omega
    generalize hS : enc [(r : Int)] = s at *
    have HS := Lib.hid hS
    clear hS hes hel
    obtain ⟨hl2, hl4⟩ := hl2
    have hlow := low_lt at' (s.length - 1) (by omega)
    have hlc : ((s.length - 1 : Nat) : Int) = (s.length : Int) - 1 := by omega
    generalize hk : low at' (s.length - 1) = k at *
    have HK := Lib.hid hk
    have HLC := Lib.hid hlc
    clear hk hlc
    obtain ⟨f1, f2⟩ := cut_front hh hc (k := 1 + k) (by omega) (by omega)
    obtain ⟨f3, f4⟩ := cut_turned hh hc (k := 1 + k) (by omega) (by omega)
    have f5 := cut_back hc (k := 1 + k) (by omega) (by omega)
    clear hh hc
    rw [List.append_assoc, List.singleton_append] at f3 f4
    have tl : (s.take (1 + k) ++ 255 :: s.drop (1 + k + 1)).length = s.length := by simp; omega
    have F1 := Lib.hid f1
    have F2 := Lib.hid f2
    have F3 := Lib.hid f3
    have F4 := Lib.hid f4
    have F5 := Lib.hid f5
    clear f1 f2 f3 f4 f5
    go_enter Tryd.func7, Tryd.ntmps7
    go_wp2_with (go_at_call 27; refine (scalar_c n _).mono ?_; rw [HR.out]; rintro e w1 ⟨rfl, rfl⟩)
    have hA := hA.alloc (.cells #[.int .i32 r] 21)
    go_wp2_with (go_at_call 23; refine (text_c [(r : Int)] _ _ (sl_new (i32s [(r : Int)]) (by simp [i32s])) (by intro x hx; simp at hx; omega) (by simp)).mono ?_; rw [HS.out]; rintro e w3 ⟨rfl, hb⟩; have hA := hA.step hb; clear hb)
    go_wp2_with fail
    rw [← HLC.out]
    refine (low_c at' (s.length - 1) _ (by omega) (by omega)).mono ?_
    rw [HK.out]
    rintro e w1 ⟨rfl, rfl⟩
    go_wp2_with fail
    go_quiet (fail)
    have hA := hA.drewN nq
    generalize hT : s.take (1 + k) ++ 255 :: s.drop (1 + k + 1) = t at *
    have HT := Lib.hid hT
    clear hT
    go_wp2_with fail
    refine (place_c (s.take (1 + k)) _ hA.env (by simp; omega)).mono ?_
    rw [F1.out]
    rintro e w1 ⟨rfl, hb⟩
    have hA := hA.step hb
    clear hb
    go_wp2_with fail
    refine (width_c (s.take (1 + k)) _ (by simp; omega)).mono ?_
    rw [F2.out]
    rintro e w1 ⟨rfl, hb⟩
    have hA := hA.step hb
    clear hb
    go_wp2_with fail
    refine (place_c (97 :: s.drop (1 + k)) _ hA.env (by simp; omega)).mono ?_
    rw [F5.out]
    rintro e w1 ⟨rfl, hb⟩
    have hA := hA.step hb
    clear hb
    go_wp2_with fail
    refine (place_c t _ hA.env (by omega)).mono ?_
    rw [F3.out]
    rintro e w1 ⟨rfl, hb⟩
    have hA := hA.step hb
    clear hb
    go_wp2_with fail
    refine (width_c t _ (by omega)).mono ?_
    rw [F4.out]
    rintro e w1 ⟨rfl, hb⟩
    have hA := hA.step hb
    clear hb
    go_wp2_with fail
    refine (awake1_c _ hA.env).mono ?_
    rintro e w1 ⟨rfl, hb⟩
    have hA := hA.step hb
    clear hb
    go_wp2_with fail
    go_ret
    exact ⟨rfl, hA.below⟩
end Go.Proofs.YtipcfdebbjfecaaDoor
