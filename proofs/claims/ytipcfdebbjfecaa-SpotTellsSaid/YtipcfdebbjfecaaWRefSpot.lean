/- The walks of the document's answer of chapter 3. -/
import Derived.Test.YtipcfdebbjfecaaWRefRunes
import Derived.Test.YtipcfdebbjfecaaPSpot
namespace Go.Proofs.Ytipcfdebbjfecaa
open Go.RowKit U Go.Proofs

set_option maxRecDepth 100000 in
set_option maxHeartbeats 1000000 in
theorem refLines_c (l : List UInt8) (w : World) (hs : l.length ≤ 1073741824) :
    Calls Try.prog 12 #[.string ⟨l.toArray⟩] w fun e w' => e = .returned (.int .i64 (lf l + 1 : Nat)) ∧ w = w' := by
  go_enter Try.func12, Try.ntmps12
  go_wp2
  go_loop [3, 4] (fun n i => ∃ k : Nat, k ≤ l.length ∧ i = .int .i64 k ∧ n = .int .i64 (lf (l.take k) + 1 : Nat)) (fun _ i => l.length - (intOf i).toNat)
  case atStart => exact ⟨0, Nat.zero_le _, rfl, by simp [lf]⟩
  case round =>
    obtain ⟨k, hk, rfl, rfl⟩ := hrel
    have hlf := lf_le (l.take k)
    rw [List.length_take_of_le hk] at hlf
    by_cases hlt : k < l.length
    · have hs := lf_step l k hlt
      have HS := Lib.hid hs
      clear hs
      by_cases h10 : byt l k = 10
      · have H10 := Lib.hid h10
        go_wp2
        go_round
        case rel => exact ⟨k + 1, by omega, by go_num, by rw [HS.out, if_pos H10.out]; go_num⟩
        case measure => simp [intOf]; omega
      · have H10 := Lib.hid h10
        go_wp2
        go_round
        case rel => exact ⟨k + 1, by omega, by go_num, by rw [HS.out, if_neg H10.out]⟩
        case measure => simp [intOf]; omega
    · go_wp2
      go_ret
      obtain rfl : k = l.length := by omega
      exact ⟨ret_int (by rw [List.take_length]), rfl⟩

theorem ite_min (a b : Int) : (if b < a then b else a) = min a b := by omega
theorem ite_max (a b : Int) : (if a < b then b else a) = max a b := by omega
attribute [local go_sem] ite_min ite_max

set_option maxRecDepth 100000 in
set_option maxHeartbeats 1000000 in
theorem refAt_c (l : List UInt8) (p : Int) (w : World) (hs : l.length ≤ 1073741824) (_hp0 : -9223372036854775808 ≤ p) (_hp1 : p ≤ 9223372036854775807) :
    Calls Try.prog 7 #[.string ⟨l.toArray⟩, .int .i64 p] w fun e w' => e = .returned (.tuple #[.int .i64 ((at' l (held l p)).1 : Nat), .int .i64 ((at' l (held l p)).2 : Nat)]) ∧ Below w.heap.size w w' := by
  have hh := held_le l p
  have hn : (held l p : Int) = max 0 (min p (l.length : Int)) := by unfold held; omega
  generalize hP : held l p = n at *
  have HN := Lib.hid hn
  clear hP hn
  rw [show at' l n = (lf (l.take n) + 1, width (tl (l.take n)) + 1) from rfl]
  go_enter Try.func7, Try.ntmps7
  go_wp2
  rw [← HN.out]
  go_loop [6, 7, 8] (fun L F i => ∃ k f : Nat, k ≤ n ∧ f ≤ k ∧ i = .int .i64 k ∧ L = .int .i64 (lf (l.take k) + 1 : Nat) ∧ F = .int .i64 f ∧ Hid (tl (l.take k) = (l.take k).drop f)) (fun _ _ i => n - (intOf i).toNat)
  case atStart => exact ⟨0, 0, Nat.zero_le _, Nat.zero_le _, rfl, by simp [lf], rfl, Lib.hid (by simp [tl])⟩
  case round =>
    obtain ⟨k, f, hk, hf, rfl, rfl, rfl, HT⟩ := hrel
    have hlf := lf_le (l.take k)
    rw [List.length_take_of_le (by omega)] at hlf
    by_cases hlt : k < n
    · have hkl : k < l.length := by omega
      have hs1 := lf_step l k hkl
      have hs2 := tl_step l k hkl
      have hs3 := take_snoc l k hkl
      have HS1 := Lib.hid hs1
      have HS2 := Lib.hid hs2
      have HS3 := Lib.hid hs3
      clear hs1 hs2 hs3
      by_cases h10 : byt l k = 10
      · have H10 := Lib.hid h10
        go_wp2
        go_round
        case rel => exact ⟨k + 1, k + 1, by omega, Nat.le_refl _, by go_num, by rw [HS1.out, if_pos H10.out]; go_num, by go_num, Lib.hid (by rw [HS2.out, if_pos H10.out, List.drop_eq_nil_of_le (by rw [List.length_take]; omega)])⟩
        case measure => simp [intOf]; omega
      · have H10 := Lib.hid h10
        go_wp2
        go_round
        case rel => exact ⟨k + 1, f, by omega, by omega, by go_num, by rw [HS1.out, if_neg H10.out], rfl, Lib.hid (by rw [HS2.out, if_neg H10.out, HT.out, HS3.out, List.drop_append_of_le_length (by rw [List.length_take]; omega)])⟩
        case measure => simp [intOf]; omega
    · obtain rfl : k = n := by omega
      have hlk : (l.take k).length = k := by rw [List.length_take]; omega
      have hts : (l.drop f).take (k - f) = tl (l.take k) := by rw [HT.out, List.drop_take]
      have hwd := width_le (tl (l.take k))
      have htk : (tl (l.take k)).length ≤ k := by rw [HT.out, List.length_drop]; omega
      have HTS := Lib.hid hts
      clear hts
      go_wp2_with fail
      rw [HTS.out]
      refine (refWidth_c (tl (l.take k)) _ (by omega)).mono ?_
      rintro e w1 ⟨rfl, hb⟩
      go_wp2_with fail
      go_ret2
      exact ⟨ret_ll (by omega) (by omega), hb⟩
set_option maxRecDepth 100000 in
set_option maxHeartbeats 1000000 in
theorem refBack_c (l : List UInt8) (line col : Int) (w : World) (hs : l.length ≤ 1073741824) :
    Calls Try.prog 9 #[.string ⟨l.toArray⟩, .int .i64 line, .int .i64 col] w fun e w' => e = .returned (.tuple #[.int .i64 (back l line col).1, .bool (back l line col).2]) ∧ Below w.heap.size w w' := by
  go_enter Try.func9, Try.ntmps9
  go_wp2
  go_loopw [8] (fun i wr => ∃ k : Nat, k ≤ l.length + 1 ∧ i = .int .i64 k ∧ Below w.heap.size w wr ∧ Hid (findAt l line col (if k ≤ l.length then starts k l else []) = back l line col)) (fun i _ => l.length + 1 - (intOf i).toNat)
  case atStart => exact ⟨0, Nat.zero_le _, rfl, Below.refl _ _, Lib.hid (by rw [if_pos (Nat.zero_le _)]; rfl)⟩
  case round =>
    obtain ⟨k, hk, rfl, hbw, HP⟩ := hrel
    by_cases hle : k ≤ l.length
    · have hheld : held l (k : Int) = k := by unfold held; omega
      obtain ⟨L, hL⟩ : ∃ L, (at' l k).1 = L := ⟨_, rfl⟩
      obtain ⟨C, hC⟩ : ∃ C, (at' l k).2 = C := ⟨_, rfl⟩
      have HH := Lib.hid hheld
      have HL := Lib.hid hL
      have HC := Lib.hid hC
      clear hheld hL hC
      go_wp2_with fail
      refine (refAt_c l k _ hs (by omega) (by omega)).mono ?_
      rw [HH.out, HL.out, HC.out]
      rintro e w1 ⟨rfl, hb⟩
      have hbw := hbw.trans (hb.mono hbw.size)
      clear hb
      by_cases hlt : k < l.length
      · have hne : l.drop k ≠ [] := by simp; omega
        have hw1 := dec_w_pos (l.drop k)
        have hw2 := dec_w_le (l.drop k) hne
        rw [List.length_drop] at hw2
        obtain ⟨r, n, hd⟩ : ∃ r n, dec (l.drop k) = (r, n) := ⟨_, _, rfl⟩
        have hst := starts_at hlt (show (dec (l.drop k)).2 = n by rw [hd])
        rw [hd] at hw1 hw2
        have HT := Lib.hid hst
        have HD := Lib.hid hd
        clear hst hd hne
        by_cases hm : (L : Int) = line ∧ (C : Int) = col
        · obtain ⟨hm1, hm2⟩ := hm
          subst hm1 hm2
          go_wp2_with fail
          go_ret2
          refine ⟨?_, hbw⟩
          rw [← HP.out, if_pos hle, HT.out, findAt_hit l _ _ _ _ (by rw [HL.out]) (by rw [HC.out])]
          all_goals rfl
        · have hmiss := findAt_miss l line col k (starts (k + n) l) (by rw [HL.out, HC.out]; exact hm)
          have HM := Lib.hid hmiss
          clear hmiss
          have hkn : k + n ≤ l.length := by omega
          cases hb : bad (l.drop k) with
          | true =>
            obtain ⟨rfl, rfl⟩ : r = 65533 ∧ n = 1 := by
              have := (dec_bad hb).symm.trans HD.out
              simp only [Prod.mk.injEq] at this
              exact ⟨this.1.symm, this.2.symm⟩
            have HB := Lib.hid hb
            clear hb
            by_cases hm1 : (L : Int) = line
            · have hm2 : (C : Int) ≠ col := fun h => hm ⟨hm1, h⟩
              clear hm
              go_wp2_with fail
              refine (one_c l k _ (by omega) hlt).mono ?_
              rintro e w2 ⟨rfl, rfl⟩
              rw [one_bad HB.out]
              go_wp2_with fail
              refine ⟨⟨k + 1, by omega, by go_num, hbw, Lib.hid ?_⟩, ?_⟩
              · rw [if_pos hkn, ← HP.out, if_pos hle, HT.out, HM.out]
              · simp [intOf]; omega
            · clear hm
              go_wp2_with fail
              refine (one_c l k _ (by omega) hlt).mono ?_
              rintro e w2 ⟨rfl, rfl⟩
              rw [one_bad HB.out]
              go_wp2_with fail
              refine ⟨⟨k + 1, by omega, by go_num, hbw, Lib.hid ?_⟩, ?_⟩
              · rw [if_pos hkn, ← HP.out, if_pos hle, HT.out, HM.out]
              · simp [intOf]; omega
          | false =>
            have HB := Lib.hid hb
            clear hb
            by_cases hm1 : (L : Int) = line
            · have hm2 : (C : Int) ≠ col := fun h => hm ⟨hm1, h⟩
              clear hm
              go_wp2_with fail
              refine (one_c l k _ (by omega) hlt).mono ?_
              rintro e w2 ⟨rfl, rfl⟩
              rw [one_good HB.out, HD.out]
              go_wp2_with fail
              refine ⟨⟨k + n, by omega, by go_num, hbw, Lib.hid ?_⟩, ?_⟩
              · rw [if_pos hkn, ← HP.out, if_pos hle, HT.out, HM.out]
              · simp [intOf]; omega
            · clear hm
              go_wp2_with fail
              refine (one_c l k _ (by omega) hlt).mono ?_
              rintro e w2 ⟨rfl, rfl⟩
              rw [one_good HB.out, HD.out]
              go_wp2_with fail
              refine ⟨⟨k + n, by omega, by go_num, hbw, Lib.hid ?_⟩, ?_⟩
              · rw [if_pos hkn, ← HP.out, if_pos hle, HT.out, HM.out]
              · simp [intOf]; omega
      · obtain rfl : k = l.length := by omega
        have HT := Lib.hid (starts_end hlt)
        by_cases hm1 : (L : Int) = line
        · by_cases hm2 : (C : Int) = col
          · subst hm1 hm2
            go_wp2_with fail
            go_ret2
            refine ⟨?_, hbw⟩
            rw [← HP.out, if_pos hle, HT.out, findAt_hit l _ _ _ _ (by rw [HL.out]) (by rw [HC.out])]
            all_goals rfl
          · go_wp2_with fail
            refine ⟨⟨l.length + 1, by omega, by go_num, hbw, Lib.hid ?_⟩, ?_⟩
            · rw [if_neg (by omega), ← HP.out, if_pos hle, HT.out, findAt_miss l _ _ _ _ (by rw [HL.out, HC.out]; exact fun h => hm2 h.2)]
            · simp [intOf]
        · go_wp2_with fail
          refine ⟨⟨l.length + 1, by omega, by go_num, hbw, Lib.hid ?_⟩, ?_⟩
          · rw [if_neg (by omega), ← HP.out, if_pos hle, HT.out, findAt_miss l _ _ _ _ (by rw [HL.out, HC.out]; exact fun h => hm1 h.1)]
          · simp [intOf]
    · have hgt : l.length < k := by omega
      go_wp2_with fail
      go_ret2
      refine ⟨?_, hbw⟩
      rw [← HP.out, if_neg hle, findAt_nil]
      all_goals rfl
end Go.Proofs.Ytipcfdebbjfecaa
