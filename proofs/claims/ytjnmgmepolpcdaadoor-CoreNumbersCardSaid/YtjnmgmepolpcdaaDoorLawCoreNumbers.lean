/- The walk of bosketlaw8.CoreNumbers. -/
import Derived.Test.YtjnmgmepolpcdaaDoorWCoreLaw
namespace Go.Proofs.YtjnmgmepolpcdaaDoor
open Go.RowKit U Go.Proofs

set_option maxRecDepth 100000 in
set_option maxHeartbeats 16000000 in
theorem coreNumbers_c (n sg fm b : Int) (w : World) (hE : Env w) (_hn0 : -9223372036854775808 ≤ n) (_hn1 : n ≤ 9223372036854775807) (_hs0 : -9223372036854775808 ≤ sg) (_hs1 : sg ≤ 9223372036854775807) (_hf0 : -9223372036854775808 ≤ fm) (_hf1 : fm ≤ 9223372036854775807) (hb0 : 0 ≤ b) (hb1 : b ≤ 255) :
    Calls Tryd.prog 4 #[.int .i64 n, .int .i64 sg, .int .i64 fm, .int .u8 b] w fun e w' => e = .returned (.bool true) ∧ Below w.heap.size w w' := by
  have hA := At.refl hE
  have hn := low_lt n 1000000 (by omega)
  have hD := fun w => lawDigits_c 6 (low n 1000000) (low n 1000000) w rfl (by simpa using hn) (by omega) (by omega)
  have hLn := fun w => low_j n 1000000 (low n 1000000) w (by omega) (by omega) rfl
  obtain ⟨d1, d2, d30⟩ := digitsF_ok 6 (low n 1000000)
  have d3 := d30 (by omega)
  clear d30
  generalize digitsF 6 (low n 1000000) = d at *
  generalize low n 1000000 = m at *
  have hj := low_lt sg 3 (by omega)
  have hk := low_lt fm 7 (by omega)
  have hLj := fun w => low_j sg 3 (low sg 3) w (by omega) (by omega) rfl
  have hLk := fun w => low_j fm 7 (low fm 7) w (by omega) (by omega) rfl
  generalize low sg 3 = j at *
  generalize low fm 7 = k at *
  have hq0 : 0 ≤ b % 20 := Int.emod_nonneg _ (by decide)
  have hq1 : b % 20 < 20 := Int.emod_lt_of_pos _ (by decide)
  have hcv : ∀ (W : World) (o1 o2 : Obj), (convert 29 9 (.slice (some ⟨W.heap.size + 1 + 1, 0, none⟩) 1 1)).run Tryd.prog (((W.alloc o1).alloc o2).alloc (.cells #[.int .u8 (103 + b % 20)] 5)) = .ok (.string ⟨[(103 + b % 20).toNat.toUInt8].toArray⟩) (((W.alloc o1).alloc o2).alloc (.cells #[.int .u8 (103 + b % 20)] 5)) := fun W o1 o2 => by
    have h := run_str1 (P := Tryd.prog) ((W.alloc o1).alloc o2) 29 9 5 (103 + b % 20) (by omega) (by omega) Tryd.underlying29 Tryd.underlying5 Tryd.underlying9
    rw [show ((W.alloc o1).alloc o2).heap.size = W.heap.size + 1 + 1 by simp] at h
    exact h
  have hwb : behind ((103 + b % 20).toNat.toUInt8) := by
    have hall : ∀ i : Fin 20, behind ((103 + i.1).toUInt8) := by unfold behind; decide
    have := hall ⟨(b % 20).toNat, by omega⟩
    rwa [show 103 + (b % 20).toNat = (103 + b % 20).toNat by omega] at this
  have hsp : behind 32 := by unfold behind; decide
  generalize ((103 + b % 20).toNat.toUInt8) = wb at *
  have hkc : k = 0 ∨ k = 1 ∨ k = 2 ∨ k = 3 ∨ k = 4 ∨ k = 5 ∨ k = 6 := by omega
  have hsg : (j = 0 ∨ j = 1 ∨ j = 2) := by omega
  have HD := Lib.hid d1
  have HD3 := Lib.hid d3
  have HB := Lib.hid hwb
  have HSP := Lib.hid hsp
  clear d1 d3 hj hk hn hwb hsp
  rcases hsg with rfl | rfl | rfl
  · have hs3 : ([] : List UInt8) = [] ∨ ([] : List UInt8) = [43] ∨ ([] : List UInt8) = [45] := by decide
    have HG := core_digits hs3 HD.out HD3.out
    have HI := Lib.hid HG.1
    have HIW := Lib.hid (HG.2 wb HB.out)
    have HF0 := fun k => core_formOf hs3 HD.out HD3.out k
    have HF := Lib.hid (fun k => (HF0 k).1)
    have HFW := Lib.hid (fun k => (HF0 k).2 wb HB.out)
    have HFS := Lib.hid (fun k => (HF0 k).2 32 HSP.out)
    clear HG HF0 hs3
    rcases hkc with rfl | rfl | rfl | rfl | rfl | rfl | rfl
    all_goals
      go_enter Tryd.func4, Tryd.ntmps4
      go_wp2_with fail
      refine (hLj _).mono ?_
      rintro e w1 ⟨rfl, rfl⟩
      go_wp2_with fail
      refine (hLn _).mono ?_
      rintro e w1 ⟨rfl, rfl⟩
      go_wp2_with fail
      refine (hD _).mono ?_
      rintro e w1 ⟨rfl, rfl⟩
      go_wp2_with fail
      refine (hLk _).mono ?_
      rintro e w1 ⟨rfl, rfl⟩
      go_wp2_with fail
      refine (tag_is _ [105, 110, 116] _ _ (((hA.alloc _).alloc _).alloc _) ?_ ?_).mono ?_
      · first | omega | (simp <;> omega)
      · exact (by first | simpa [wInt] using HI.out)
      rintro e w1 ⟨rfl, hA⟩
      go_wp2_with fail
      refine (coreLong_c [105, 110, 116] _ (by decide)).mono ?_
      rintro e w2 ⟨rfl, rfl⟩
      go_wp2_with fail
      refine (tag_is _ [102, 108, 111, 97, 116] _ _ hA ?_ ?_).mono ?_
      · first | omega | (simp <;> omega)
      · exact (by first | simpa [formOf, wFloat, wStr] using HF.out 0 | simpa [formOf, wFloat, wStr] using HF.out 1 | simpa [formOf, wFloat, wStr] using HF.out 2 | simpa [formOf, wFloat, wStr] using HF.out 3 | simpa [formOf, wFloat, wStr] using HF.out 4 | simpa [formOf, wFloat, wStr] using HF.out 5 | simpa [formOf, wFloat, wStr] using HF.out 6)
      rintro e w1 ⟨rfl, hA⟩
      go_wp2_with fail
      refine (coreLong_c [102, 108, 111, 97, 116] _ (by decide)).mono ?_
      rintro e w2 ⟨rfl, rfl⟩
      go_wp2_with fail
      refine (tag_is _ [115, 116, 114] _ _ hA ?_ ?_).mono ?_
      · first | omega | (simp <;> omega)
      · exact (by simpa [wStr] using HIW.out)
      rintro e w1 ⟨rfl, hA⟩
      go_wp2_with fail
      refine (coreLong_c [115, 116, 114] _ (by decide)).mono ?_
      rintro e w2 ⟨rfl, rfl⟩
      go_wp2_with fail
      refine (tag_is _ [115, 116, 114] _ _ hA ?_ ?_).mono ?_
      · first | omega | (simp <;> omega)
      · exact (by first | simpa [formOf, wFloat, wStr] using HFW.out 0 | simpa [formOf, wFloat, wStr] using HFW.out 1 | simpa [formOf, wFloat, wStr] using HFW.out 2 | simpa [formOf, wFloat, wStr] using HFW.out 3 | simpa [formOf, wFloat, wStr] using HFW.out 4 | simpa [formOf, wFloat, wStr] using HFW.out 5 | simpa [formOf, wFloat, wStr] using HFW.out 6)
      rintro e w1 ⟨rfl, hA⟩
      go_wp2_with fail
      refine (coreLong_c [115, 116, 114] _ (by decide)).mono ?_
      rintro e w2 ⟨rfl, rfl⟩
      go_wp2_with fail
      refine (tag_is _ [115, 116, 114] _ _ hA ?_ ?_).mono ?_
      · first | omega | (simp <;> omega)
      · exact (by first | simpa [formOf, wFloat, wStr] using HFS.out 0 | simpa [formOf, wFloat, wStr] using HFS.out 1 | simpa [formOf, wFloat, wStr] using HFS.out 2 | simpa [formOf, wFloat, wStr] using HFS.out 3 | simpa [formOf, wFloat, wStr] using HFS.out 4 | simpa [formOf, wFloat, wStr] using HFS.out 5 | simpa [formOf, wFloat, wStr] using HFS.out 6)
      rintro e w1 ⟨rfl, hA⟩
      go_wp2_with fail
      refine (coreLong_c [115, 116, 114] _ (by decide)).mono ?_
      rintro e w2 ⟨rfl, rfl⟩
      go_wp2_with fail
      refine (awake8_c _ hA.env).mono ?_
      rintro e w1 ⟨rfl, hb⟩
      have hA := hA.step hb
      clear hb
      go_wp2_with fail
      go_ret
      exact ⟨rfl, hA.below⟩
  · have hs3 : ([43] : List UInt8) = [] ∨ ([43] : List UInt8) = [43] ∨ ([43] : List UInt8) = [45] := by decide
    have HG := core_digits hs3 HD.out HD3.out
    have HI := Lib.hid HG.1
    have HIW := Lib.hid (HG.2 wb HB.out)
    have HF0 := fun k => core_formOf hs3 HD.out HD3.out k
    have HF := Lib.hid (fun k => (HF0 k).1)
    have HFW := Lib.hid (fun k => (HF0 k).2 wb HB.out)
    have HFS := Lib.hid (fun k => (HF0 k).2 32 HSP.out)
    clear HG HF0 hs3
    rcases hkc with rfl | rfl | rfl | rfl | rfl | rfl | rfl
    all_goals
      go_enter Tryd.func4, Tryd.ntmps4
      go_wp2_with fail
      refine (hLj _).mono ?_
      rintro e w1 ⟨rfl, rfl⟩
      go_wp2_with fail
      refine (hLn _).mono ?_
      rintro e w1 ⟨rfl, rfl⟩
      go_wp2_with fail
      refine (hD _).mono ?_
      rintro e w1 ⟨rfl, rfl⟩
      go_wp2_with fail
      refine (hLk _).mono ?_
      rintro e w1 ⟨rfl, rfl⟩
      go_wp2_with fail
      refine (tag_is _ [105, 110, 116] _ _ (((hA.alloc _).alloc _).alloc _) ?_ ?_).mono ?_
      · first | omega | (simp <;> omega)
      · exact (by first | simpa [wInt] using HI.out)
      rintro e w1 ⟨rfl, hA⟩
      go_wp2_with fail
      refine (coreLong_c [105, 110, 116] _ (by decide)).mono ?_
      rintro e w2 ⟨rfl, rfl⟩
      go_wp2_with fail
      refine (tag_is _ [102, 108, 111, 97, 116] _ _ hA ?_ ?_).mono ?_
      · first | omega | (simp <;> omega)
      · exact (by first | simpa [formOf, wFloat, wStr] using HF.out 0 | simpa [formOf, wFloat, wStr] using HF.out 1 | simpa [formOf, wFloat, wStr] using HF.out 2 | simpa [formOf, wFloat, wStr] using HF.out 3 | simpa [formOf, wFloat, wStr] using HF.out 4 | simpa [formOf, wFloat, wStr] using HF.out 5 | simpa [formOf, wFloat, wStr] using HF.out 6)
      rintro e w1 ⟨rfl, hA⟩
      go_wp2_with fail
      refine (coreLong_c [102, 108, 111, 97, 116] _ (by decide)).mono ?_
      rintro e w2 ⟨rfl, rfl⟩
      go_wp2_with fail
      refine (tag_is _ [115, 116, 114] _ _ hA ?_ ?_).mono ?_
      · first | omega | (simp <;> omega)
      · exact (by simpa [wStr] using HIW.out)
      rintro e w1 ⟨rfl, hA⟩
      go_wp2_with fail
      refine (coreLong_c [115, 116, 114] _ (by decide)).mono ?_
      rintro e w2 ⟨rfl, rfl⟩
      go_wp2_with fail
      refine (tag_is _ [115, 116, 114] _ _ hA ?_ ?_).mono ?_
      · first | omega | (simp <;> omega)
      · exact (by first | simpa [formOf, wFloat, wStr] using HFW.out 0 | simpa [formOf, wFloat, wStr] using HFW.out 1 | simpa [formOf, wFloat, wStr] using HFW.out 2 | simpa [formOf, wFloat, wStr] using HFW.out 3 | simpa [formOf, wFloat, wStr] using HFW.out 4 | simpa [formOf, wFloat, wStr] using HFW.out 5 | simpa [formOf, wFloat, wStr] using HFW.out 6)
      rintro e w1 ⟨rfl, hA⟩
      go_wp2_with fail
      refine (coreLong_c [115, 116, 114] _ (by decide)).mono ?_
      rintro e w2 ⟨rfl, rfl⟩
      go_wp2_with fail
      refine (tag_is _ [115, 116, 114] _ _ hA ?_ ?_).mono ?_
      · first | omega | (simp <;> omega)
      · exact (by first | simpa [formOf, wFloat, wStr] using HFS.out 0 | simpa [formOf, wFloat, wStr] using HFS.out 1 | simpa [formOf, wFloat, wStr] using HFS.out 2 | simpa [formOf, wFloat, wStr] using HFS.out 3 | simpa [formOf, wFloat, wStr] using HFS.out 4 | simpa [formOf, wFloat, wStr] using HFS.out 5 | simpa [formOf, wFloat, wStr] using HFS.out 6)
      rintro e w1 ⟨rfl, hA⟩
      go_wp2_with fail
      refine (coreLong_c [115, 116, 114] _ (by decide)).mono ?_
      rintro e w2 ⟨rfl, rfl⟩
      go_wp2_with fail
      refine (awake8_c _ hA.env).mono ?_
      rintro e w1 ⟨rfl, hb⟩
      have hA := hA.step hb
      clear hb
      go_wp2_with fail
      go_ret
      exact ⟨rfl, hA.below⟩
  · have hs3 : ([45] : List UInt8) = [] ∨ ([45] : List UInt8) = [43] ∨ ([45] : List UInt8) = [45] := by decide
    have HG := core_digits hs3 HD.out HD3.out
    have HI := Lib.hid HG.1
    have HIW := Lib.hid (HG.2 wb HB.out)
    have HF0 := fun k => core_formOf hs3 HD.out HD3.out k
    have HF := Lib.hid (fun k => (HF0 k).1)
    have HFW := Lib.hid (fun k => (HF0 k).2 wb HB.out)
    have HFS := Lib.hid (fun k => (HF0 k).2 32 HSP.out)
    clear HG HF0 hs3
    rcases hkc with rfl | rfl | rfl | rfl | rfl | rfl | rfl
    all_goals
      go_enter Tryd.func4, Tryd.ntmps4
      go_wp2_with fail
      refine (hLj _).mono ?_
      rintro e w1 ⟨rfl, rfl⟩
      go_wp2_with fail
      refine (hLn _).mono ?_
      rintro e w1 ⟨rfl, rfl⟩
      go_wp2_with fail
      refine (hD _).mono ?_
      rintro e w1 ⟨rfl, rfl⟩
      go_wp2_with fail
      refine (hLk _).mono ?_
      rintro e w1 ⟨rfl, rfl⟩
      go_wp2_with fail
      refine (tag_is _ [105, 110, 116] _ _ (((hA.alloc _).alloc _).alloc _) ?_ ?_).mono ?_
      · first | omega | (simp <;> omega)
      · exact (by first | simpa [wInt] using HI.out)
      rintro e w1 ⟨rfl, hA⟩
      go_wp2_with fail
      refine (coreLong_c [105, 110, 116] _ (by decide)).mono ?_
      rintro e w2 ⟨rfl, rfl⟩
      go_wp2_with fail
      refine (tag_is _ [102, 108, 111, 97, 116] _ _ hA ?_ ?_).mono ?_
      · first | omega | (simp <;> omega)
      · exact (by first | simpa [formOf, wFloat, wStr] using HF.out 0 | simpa [formOf, wFloat, wStr] using HF.out 1 | simpa [formOf, wFloat, wStr] using HF.out 2 | simpa [formOf, wFloat, wStr] using HF.out 3 | simpa [formOf, wFloat, wStr] using HF.out 4 | simpa [formOf, wFloat, wStr] using HF.out 5 | simpa [formOf, wFloat, wStr] using HF.out 6)
      rintro e w1 ⟨rfl, hA⟩
      go_wp2_with fail
      refine (coreLong_c [102, 108, 111, 97, 116] _ (by decide)).mono ?_
      rintro e w2 ⟨rfl, rfl⟩
      go_wp2_with fail
      refine (tag_is _ [115, 116, 114] _ _ hA ?_ ?_).mono ?_
      · first | omega | (simp <;> omega)
      · exact (by simpa [wStr] using HIW.out)
      rintro e w1 ⟨rfl, hA⟩
      go_wp2_with fail
      refine (coreLong_c [115, 116, 114] _ (by decide)).mono ?_
      rintro e w2 ⟨rfl, rfl⟩
      go_wp2_with fail
      refine (tag_is _ [115, 116, 114] _ _ hA ?_ ?_).mono ?_
      · first | omega | (simp <;> omega)
      · exact (by first | simpa [formOf, wFloat, wStr] using HFW.out 0 | simpa [formOf, wFloat, wStr] using HFW.out 1 | simpa [formOf, wFloat, wStr] using HFW.out 2 | simpa [formOf, wFloat, wStr] using HFW.out 3 | simpa [formOf, wFloat, wStr] using HFW.out 4 | simpa [formOf, wFloat, wStr] using HFW.out 5 | simpa [formOf, wFloat, wStr] using HFW.out 6)
      rintro e w1 ⟨rfl, hA⟩
      go_wp2_with fail
      refine (coreLong_c [115, 116, 114] _ (by decide)).mono ?_
      rintro e w2 ⟨rfl, rfl⟩
      go_wp2_with fail
      refine (tag_is _ [115, 116, 114] _ _ hA ?_ ?_).mono ?_
      · first | omega | (simp <;> omega)
      · exact (by first | simpa [formOf, wFloat, wStr] using HFS.out 0 | simpa [formOf, wFloat, wStr] using HFS.out 1 | simpa [formOf, wFloat, wStr] using HFS.out 2 | simpa [formOf, wFloat, wStr] using HFS.out 3 | simpa [formOf, wFloat, wStr] using HFS.out 4 | simpa [formOf, wFloat, wStr] using HFS.out 5 | simpa [formOf, wFloat, wStr] using HFS.out 6)
      rintro e w1 ⟨rfl, hA⟩
      go_wp2_with fail
      refine (coreLong_c [115, 116, 114] _ (by decide)).mono ?_
      rintro e w2 ⟨rfl, rfl⟩
      go_wp2_with fail
      refine (awake8_c _ hA.env).mono ?_
      rintro e w1 ⟨rfl, hb⟩
      have hA := hA.step hb
      clear hb
      go_wp2_with fail
      go_ret
      exact ⟨rfl, hA.below⟩
end Go.Proofs.YtjnmgmepolpcdaaDoor
