/- The walks of package text. -/
import Derived.Test.YtipcfdebbjfecaaDoorWUtfs
import Derived.Test.YtipcfdebbjfecaaDoorPText
namespace Go.Proofs.YtipcfdebbjfecaaDoor
open Go.RowKit U Go.Proofs

set_option maxRecDepth 100000 in
set_option maxHeartbeats 1000000 in
theorem printable_c (r : Int) (w : World) :
    Calls Tryd.prog 36 #[.int .i32 r] w fun e w' => e = .returned (.bool (printable r)) ∧ w = w' := by
  go_enter Tryd.func36, Tryd.ntmps36
  go_wp2
  all_goals (go_ret; refine ⟨ret_bool ?_, rfl⟩; unfold printable)
  all_goals simp only [beq_iff_eq, beq_eq_false_iff_ne, ne_eq] at *
  all_goals
    rw [Bool.eq_iff_iff]
    simp only [Bool.or_eq_true, decide_eq_true_eq, reduceCtorEq, true_iff, false_iff]
    omega

set_option maxRecDepth 100000 in
set_option maxHeartbeats 1000000 in
theorem wrong_c (l : List UInt8) (w : World) (hE : Env w) (hs : l.length ≤ 1073741824) :
    Calls Tryd.prog 48 #[.string ⟨l.toArray⟩] w fun e w' => e = .returned (.int .i64 (wrong l)) ∧ Below w.heap.size w w' := by
  have hA := At.refl hE
  go_enter Tryd.func48, Tryd.ntmps48
  go_wp2_with fail
  refine (place_c l _ hE hs).mono ?_
  rintro e w1 ⟨rfl, hb⟩
  have hA := hA.step hb
  clear hb
  go_wp2_with fail
  have hk := hA.below.size
  generalize hK : w1.heap.size = k at *
  have HK := Lib.hid hK
  go_loopw [] (fun wr => ∃ pos : Nat, pos ≤ l.length ∧ wr.heap[k]? = some (.stringIter ⟨l.toArray⟩ pos) ∧ At w wr ∧ Hid (placeOf (units pos (l.drop pos)) = place l) ∧ Hid (wrongOf (units pos (l.drop pos)) = wrong l)) (fun wr => l.length - wr.iterPos k)
  case atStart =>
    refine ⟨0, Nat.zero_le _, ?_, hA.alloc _, Lib.hid rfl, Lib.hid rfl⟩
    subst hK
    exact World.iter_heap w1 _ 0
  case round =>
    obtain ⟨pos, hp, hit, hA, hP, hW⟩ := hrel
    by_cases hlt : pos < l.length
    · obtain ⟨r, n, HD, HU, hn1, hn2, hr, hnx, hit2, hbw2, hsz, hsz2⟩ := range_at Tryd.prog hit hlt hA.below hk
      have hA2 : At w (wr.iterAt k ⟨l.toArray⟩ (pos + n)) := ⟨hA.start, hbw2⟩
      have hpg := placeOf_ge (pos + n) (l.drop (pos + n))
      obtain ⟨W, hWW⟩ : ∃ W, W = wr.iterAt k ⟨l.toArray⟩ (pos + n) := ⟨_, rfl⟩
      rw [← hWW] at hnx hit2 hA2
      have hip : wr.iterPos k = pos := iterPos_of hit
      have hip2 : W.iterPos k = pos + n := iterPos_of hit2
      have HIP := Lib.hid hip
      have HIP2 := Lib.hid hip2
      clear hWW hbw2 hsz hsz2 hit hip hip2
      have hit := hit2
      cases hb : (r == 65533 && n == 1) with
      | true =>
        have hpl : place l = pos := by rw [← hP.out, HU.out, placeOf_bad _ _ hb]
        have hwl : wrong l = pos := by rw [← hW.out, HU.out, wrongOf_yes _ _ (by simp [wrongU, hb])]
        have HPL := Lib.hid hpl
        have HWL := Lib.hid hwl
        clear hpl hwl hpg hb
        generalize hQ : place l = q at *
        have hq : q = pos := HPL.out
        subst hq
        clear hQ
        go_wp2_with fail
        go_ret
        exact ⟨ret_int HWL.out.symm, hA2.below⟩
      | false =>
        have hpl : placeOf (units (pos + n) (l.drop (pos + n))) = place l := by rw [← hP.out, HU.out, placeOf_good _ _ hb]
        have hne : place l ≠ pos := by rw [← hpl]; omega
        have hwu : wrongU (pos, r, n) = (r != 13 && !printable r) := by simp [wrongU, hb]
        have hne2 : ((pos : Int) == place l) = false := by simpa using Ne.symm hne
        have HPL := Lib.hid hpl
        have HWU := Lib.hid hwu
        clear hpl hwu hne hpg hb
        generalize hQ : place l = q at *
        clear hQ
        by_cases h13 : r = 13
        · subst h13
          go_wp2_with fail
          refine ⟨⟨pos + n, by omega, hit, hA2, HPL, Lib.hid ?_⟩, ?_⟩
          · rw [← hW.out, HU.out, wrongOf_no _ _ (by rw [HWU.out]; rfl)]
          · rw [HIP.out, HIP2.out]; omega
        · have h13' : ((r : Int) == 13) = false := by simp; omega
          obtain ⟨b, hb⟩ : ∃ b, printable r = b := ⟨_, rfl⟩
          have HB := Lib.hid hb
          clear hb
          cases b with
          | true =>
            go_wp2_with fail
            refine (printable_c r _).mono ?_
            rw [HB.out]
            rintro e w2 ⟨rfl, rfl⟩
            go_wp2_with fail
            refine ⟨⟨pos + n, by omega, hit, hA2, HPL, Lib.hid ?_⟩, ?_⟩
            · rw [← hW.out, HU.out, wrongOf_no _ _ (by rw [HWU.out, HB.out]; simp)]
            · rw [HIP.out, HIP2.out]; omega
          | false =>
            go_wp2_with fail
            refine (printable_c r _).mono ?_
            rw [HB.out]
            rintro e w2 ⟨rfl, rfl⟩
            go_wp2_with fail
            go_ret
            refine ⟨ret_int ?_, hA2.below⟩
            rw [← hW.out, HU.out, wrongOf_yes _ _ (by rw [HWU.out, HB.out]; simpa using h13)]
    · have hnx := range_end Tryd.prog hit hlt
      go_wp2
      go_ret
      refine ⟨ret_int ?_, hA.below⟩
      rw [← hW.out, units_end hlt]
      rfl
theorem crlf_c (l : List UInt8) (w : World) (hE : Env w) (hs : l.length ≤ 1073741824) :
    Calls Tryd.prog 49 #[.string ⟨l.toArray⟩, .string ⟨#[13, 10]⟩, .string ⟨#[10]⟩] w fun e w' => e = .returned (.string ⟨(norm1 l).toArray⟩) ∧ Below w.heap.size w w' := by
  have hc : Lib.countB ⟨l.toArray⟩ ⟨#[13, 10]⟩ ≤ l.length + 1 := Lib.count_le _ _
  refine (Tryd.strings_ReplaceAll_shaped ⟨l.toArray⟩ ⟨#[13, 10]⟩ ⟨#[10]⟩ w hE.shaped (by rw [size_mk]; omega) (by decide) (by rw [size_mk, show (⟨#[10]⟩ : ByteArray).size = 1 from rfl]; omega)).mono ?_
  rintro e w' ⟨rfl, hb⟩
  exact ⟨ret_str (repl1 l.length l (Nat.le_refl _)), hb⟩
theorem cr_c (l : List UInt8) (w : World) (hE : Env w) (hs : l.length ≤ 1073741824) :
    Calls Tryd.prog 49 #[.string ⟨l.toArray⟩, .string ⟨#[13]⟩, .string ⟨#[10]⟩] w fun e w' => e = .returned (.string ⟨(norm2 l).toArray⟩) ∧ Below w.heap.size w w' := by
  have hc : Lib.countB ⟨l.toArray⟩ ⟨#[13]⟩ ≤ l.length + 1 := Lib.count_le _ _
  refine (Tryd.strings_ReplaceAll_shaped ⟨l.toArray⟩ ⟨#[13]⟩ ⟨#[10]⟩ w hE.shaped (by rw [size_mk]; omega) (by decide) (by rw [size_mk, show (⟨#[10]⟩ : ByteArray).size = 1 from rfl]; omega)).mono ?_
  rintro e w' ⟨rfl, hb⟩
  exact ⟨ret_str (repl2 l), hb⟩

theorem bytes_shape {w : World} {v : Value} {l : List UInt8} (h : Sl w v (Lib.byteCells l)) : ∃ a c, v = .slice a l.length c := by
  have hl : (Lib.byteCells l).length = l.length := by simp [Lib.byteCells]
  rcases h with ⟨hx, rfl | ⟨ad, c, rfl⟩⟩ | ⟨b, off, c, hne, rfl, _, _⟩
  · rw [hx] at hl
    exact ⟨none, 0, by rw [← hl]; rfl⟩
  · rw [hx] at hl
    exact ⟨some ad, c, by rw [← hl]; rfl⟩
  · exact ⟨_, c, by rw [hl]⟩

set_option maxRecDepth 100000 in
set_option maxHeartbeats 1000000 in
theorem clean_c (l : List UInt8) (v : Value) (w : World) (hE : Env w) (hv : Sl w v (Lib.byteCells l)) (hs : l.length ≤ 9223372036854775807) :
    Calls Tryd.prog 34 #[v] w fun e w' => e = .returned (.tuple #[.string ⟨(clean l).1.toArray⟩, .int .i64 (clean l).2.1, .int .i64 (clean l).2.2]) ∧ Below w.heap.size w w' := by
  have hA := At.refl hE
  obtain ⟨a, c, rfl⟩ := bytes_shape hv
  have hcv := run_str_of (P := Tryd.prog) (w := w) 41 9 5 _ l hv Tryd.underlying41 Tryd.underlying5 Tryd.underlying9
  by_cases hl : 65536 < l.length
  · have hcl : clean l = ([], 0, 2) := by rw [clean, if_pos hl]
    rw [hcl]
    go_enter Tryd.func34, Tryd.ntmps34
    go_wp2_with fail
    go_ret3
    exact ⟨rfl, hA.below⟩
  · obtain ⟨t, ht⟩ : ∃ t, Lib.trimPrefix l bom = t := ⟨_, rfl⟩
    have htl := trim_le l
    have hcl : clean l = if 0 ≤ wrong (Lib.trimPrefix l bom) then ([], wrong (Lib.trimPrefix l bom) + l.length - (Lib.trimPrefix l bom).length, 3) else (norm (Lib.trimPrefix l bom), 0, 0) := by rw [clean, if_neg hl]
    have htb : Lib.trimPrefix (⟨l.toArray⟩ : ByteArray).data.toList (⟨#[239, 187, 191]⟩ : ByteArray).data.toList = t := ht
    rw [ht] at hcl htl
    have hwl := wrong_lt t
    have hwg := wrong_ge t
    have hn1 := norm1_le t.length t (Nat.le_refl _)
    have hnn : norm2 (norm1 t) = norm t := norm12 t.length t (Nat.le_refl _)
    have HTB := Lib.hid htb
    have HNN := Lib.hid hnn
    clear ht htb hnn
    generalize hQ : wrong t = q at *
    have HQ := Lib.hid hQ
    clear hQ
    by_cases hq : 0 ≤ q
    · rw [if_pos hq] at hcl
      rw [hcl]
      clear hcl
      go_enter Tryd.func34, Tryd.ntmps34
      go_wp2_with fail
      refine (Tryd.strings_TrimPrefix ⟨l.toArray⟩ ⟨#[239, 187, 191]⟩ _).mono ?_
      rw [HTB.out]
      rintro e w1 ⟨rfl, rfl⟩
      go_wp2_with fail
      refine (wrong_c t _ hA.env (by omega)).mono ?_
      rw [HQ.out]
      rintro e w1 ⟨rfl, hb⟩
      have hA := hA.step hb
      clear hb
      go_wp2_with fail
      go_ret3
      exact ⟨rfl, hA.below⟩
    · rw [if_neg hq] at hcl
      rw [hcl]
      clear hcl
      go_enter Tryd.func34, Tryd.ntmps34
      go_wp2_with fail
      refine (Tryd.strings_TrimPrefix ⟨l.toArray⟩ ⟨#[239, 187, 191]⟩ _).mono ?_
      rw [HTB.out]
      rintro e w1 ⟨rfl, rfl⟩
      go_wp2_with fail
      refine (wrong_c t _ hA.env (by omega)).mono ?_
      rw [HQ.out]
      rintro e w1 ⟨rfl, hb⟩
      have hA := hA.step hb
      clear hb
      go_wp2_with fail
      refine (crlf_c t _ hA.env (by omega)).mono ?_
      rintro e w1 ⟨rfl, hb⟩
      have hA := hA.step hb
      clear hb
      go_wp2_with fail
      refine (cr_c (norm1 t) _ hA.env (by omega)).mono ?_
      rw [HNN.out]
      rintro e w1 ⟨rfl, hb⟩
      have hA := hA.step hb
      clear hb
      go_wp2_with fail
      go_ret3
      exact ⟨rfl, hA.below⟩
end Go.Proofs.YtipcfdebbjfecaaDoor
