/- The walks of package dire: words, comment, one. -/
import Derived.Test.YtjnmgmepolpcdaaDoorWSign
import Derived.Test.YtjnmgmepolpcdaaDoorPDire
import Derived.Test.YtjnmgmepolpcdaaDoorWCore
import Derived.Test.YtjnmgmepolpcdaaDoorLong
namespace Go.Proofs.YtjnmgmepolpcdaaDoor
open Go.RowKit Go.Shelf U Go.Proofs

set_option maxRecDepth 100000 in
set_option maxHeartbeats 1000000 in
theorem words1_c (r : Nat) (w : World) (hr : r ≤ 1114111) : Calls Tryd.prog 76 #[.int .i32 r] w fun e w' => e = .returned (.bool (whN r)) ∧ w = w' := by
  by_cases h : r < 128
  · have hW := fun w => white_c r w (by omega)
    generalize whN r = b at *
    go_enter Tryd.func76, Tryd.ntmps76
    go_wp2_with fail
    refine (hW _).mono ?_
    rintro e w1 ⟨rfl, rfl⟩
    go_wp2_with fail
    go_ret
    exact ⟨rfl, rfl⟩
  · have hb : whN r = false := by unfold whN; rw [decide_eq_false_iff_not]; omega
    rw [hb]
    go_enter Tryd.func76, Tryd.ntmps76
    go_wp2_with fail
    go_ret
    exact ⟨rfl, rfl⟩
theorem words_c (l : List UInt8) (w : World) (hs : l.length ≤ 1073741824) : Calls Tryd.prog 54 #[.string ⟨l.toArray⟩] w (RetRow w 9 (strs (wordsM l))) := by
  have hF := Tryd.strings_FieldsFunc_grows 76 #[] (fun _ _ => by kernel_rfl) whN ⟨l.toArray⟩ w (by rw [size_mk]; omega) (fun W x hx _ => (words1_c x W hx).mono fun e w' h => ⟨h.1, h.2 ▸ Below.refl _ _⟩)
  rw [fields_words] at hF
  have hm : ((wordsM l).map fun x => (⟨x.toArray⟩ : ByteArray)).map Value.string = strs (wordsM l) := by simp [strs]
  rw [hm, List.length_map] at hF
  go_enter Tryd.func54, Tryd.ntmps54
  go_wp2_with fail
  refine hF.mono ?_
  rintro e w1 ⟨A, rfl, _, hown, hb⟩
  clear hF
  go_wp2_with fail
  go_ret
  refine ⟨some ⟨A, 0, none⟩, (wordsM l).length, ?_, ?_, hb⟩
  · rw [strs_length]; rfl
  · rw [strs_length]; exact hown
set_option maxRecDepth 100000 in
set_option maxHeartbeats 2000000 in
theorem comment_c (l : List UInt8) (w : World) (hE : Env w) (hs : l.length ≤ 1073741824) :
    Calls Tryd.prog 52 #[.string ⟨l.toArray⟩] w fun e w' => e = .returned (.int .i64 (commentM l)) ∧ Below w.heap.size w w' := by
  have hA := At.refl hE
  go_enter Tryd.func52, Tryd.ntmps52
  go_wp2_with fail
  have hk := hA.below.size
  generalize hK : w.heap.size = k at *
  have HK := Lib.hid hK
  go_loopw [3, 4] (fun _ _ wr => ∃ pos : Nat, pos ≤ l.length ∧ wr.heap[k]? = some (.stringIter ⟨l.toArray⟩ pos) ∧ At w wr ∧ Hid (∀ j, j < pos → ¬ noteAt l j)) (fun _ _ wr => l.length - wr.iterPos k)
  case atStart =>
    refine ⟨0, Nat.zero_le _, ?_, hA.alloc _, Lib.hid (fun j hj => absurd hj (by omega))⟩
    subst hK
    exact World.iter_heap w _ 0
  case round =>
    obtain ⟨pos, hp, hit, hA, hN⟩ := hrel
    by_cases hlt : pos < l.length
    · have hb0 := hA.below
      rw [hK] at hb0
      obtain ⟨r, n, HD, HU, hn1, hn2, hr, hnx, hit2, hbw2, hsz, hsz2⟩ := range_at Tryd.prog hit hlt hb0 (Nat.le_refl _)
      have hA2 : At w (wr.iterAt k ⟨l.toArray⟩ (pos + n)) := ⟨hA.start, by rw [hK]; exact hbw2⟩
      obtain ⟨W, hWW⟩ : ∃ W, W = wr.iterAt k ⟨l.toArray⟩ (pos + n) := ⟨_, rfl⟩
      rw [← hWW] at hnx hit2 hA2
      have hip : wr.iterPos k = pos := iterPos_of hit
      have hip2 : W.iterPos k = pos + n := iterPos_of hit2
      have HIP := Lib.hid hip
      have HIP2 := Lib.hid hip2
      have hne : l.drop pos ≠ [] := drop_ne' hlt
      have h35 := ascii_byte (l.drop pos) 35 (by omega)
      rw [HD.out, byt_drop, Nat.add_zero] at h35
      have hun := unit_no (l.drop pos) 35 (by decide) hne
      rw [HD.out, byt_drop, Nat.add_zero] at hun
      have H35 : Hid (r = 35 ↔ byt l pos = 35) := Lib.hid ⟨fun h => (h35.1 ⟨h, hne⟩).1, fun h => (h35.2 ⟨h, hne⟩).1⟩
      have HUN := Lib.hid hun
      clear hWW hbw2 hsz hsz2 hit hip hip2 h35 hun hne
      have hit := hit2
      have hnext : ¬ noteAt l pos → ∀ j, j < pos + n → ¬ noteAt l j := by
        intro h0 j hj hc
        by_cases h1 : j < pos
        · exact hN.out j h1 hc
        · by_cases h2 : j = pos
          · subst h2; exact h0 hc
          · by_cases hb : byt l pos = 35
            · have hd := dec_byte (l.drop pos) 35 (by omega) (by rw [byt_drop, Nat.add_zero]; exact hb)
              rw [HD.out] at hd
              have : n = 1 := (Prod.mk.inj hd).2
              omega
            · have hx := HUN.out hb (l[j]'hc.2.1) (by
                rw [List.mem_take_iff_getElem]
                refine ⟨j - pos, by rw [List.length_drop]; omega, ?_⟩
                rw [List.getElem_drop]
                congr 1
                omega)
              exact hx (UInt8.toNat.inj (by rw [byt_get l j hc.2.1]; exact hc.2.2.1))
      have HNX := Lib.hid hnext
      clear hnext
      by_cases h1 : 1 ≤ pos
      · by_cases hr35 : r = 35
        · have hW := fun w => white_c (byt l (pos - 1)) w (byt_lt _ _)
          have hcc : Hid (whN (byt l (pos - 1)) = true ↔ noteAt l pos) := Lib.hid ⟨fun h => ⟨h1, hlt, H35.out.1 hr35, h⟩, fun h => h.2.2.2⟩
          have g35 : ((r : Int) == 35) = true := by rw [beq_iff_eq]; omega
          clear hr35
          generalize whN (byt l (pos - 1)) = b at *
          cases b with
          | true =>
            have hres : Hid (commentM l = pos) := Lib.hid (comment_at hN.out (hcc.out.1 rfl))
            go_wp2_with fail
            refine (hW _).mono ?_
            rintro e w1 ⟨rfl, rfl⟩
            go_wp2_with fail
            go_ret
            exact ⟨ret_int (by rw [hres.out]), hA2.below⟩
          | false =>
            have hnn := Lib.hid (HNX.out (fun h => by have := hcc.out.2 h; cases this))
            go_wp2_with fail
            refine (hW _).mono ?_
            rintro e w1 ⟨rfl, rfl⟩
            go_wp2_with fail
            refine ⟨⟨pos + n, by omega, hit, hA2, hnn⟩, ?_⟩
            rw [HIP.out, HIP2.out]; omega
        · have hnn := Lib.hid (HNX.out (fun h => hr35 (H35.out.2 h.2.2.1)))
          have g35 : ((r : Int) == 35) = false := by rw [beq_eq_false_iff_ne]; omega
          clear hr35
          go_wp2_with fail
          refine ⟨⟨pos + n, by omega, hit, hA2, hnn⟩, ?_⟩
          rw [HIP.out, HIP2.out]; omega
      · have hnn := Lib.hid (HNX.out (fun h => h1 h.1))
        have hp0 : ¬ 0 < pos := by omega
        go_wp2_with fail
        refine ⟨⟨pos + n, by omega, hit, hA2, hnn⟩, ?_⟩
        rw [HIP.out, HIP2.out]; omega
    · have hnx := range_end Tryd.prog hit hlt
      have hres : Hid (commentM l = -1) := Lib.hid (comment_no (fun j hj => hN.out j (by omega)))
      go_wp2_with fail
      go_ret
      exact ⟨ret_int (by rw [hres.out]), hA.below⟩
theorem cs10_all (l : List UInt8) : l.all (fun b => cs10.contains b) = l.all dec10 := by rw [cs10_p]
theorem trim10_c (l : List UInt8) (w : World) (hs : l.length ≤ 1073741824) :
    Calls Tryd.prog 110 #[.string ⟨l.toArray⟩, .string ⟨#[48, 49, 50, 51, 52, 53, 54, 55, 56, 57]⟩] w fun e w' => e = .returned (.string ⟨(Lib.trimS l cs10).toArray⟩) ∧ Below w.heap.size w w' := by
  have hT := Any.strings_Trim_laid Tryd.lays160 (by kernel_rfl) ⟨l.toArray⟩ ⟨cs10.toArray⟩ w (by rw [size_mk]; omega) (by decide) (ascii_of_all (by decide))
  exact hT
/-- Is a word a version that is read? -/
def oneM (l : List UInt8) : Bool := pre2 49 46 l && allOf dec10 (l.drop 2)
set_option maxRecDepth 100000 in
set_option maxHeartbeats 2000000 in
theorem one_c (l : List UInt8) (w : World) (hs : l.length ≤ 1073741824) :
    Calls Tryd.prog 77 #[.string ⟨l.toArray⟩] w fun e w' => e = .returned (.bool (oneM l)) ∧ Below w.heap.size w w' := by
  unfold oneM
  cases hp : pre2 49 46 l with
  | false =>
    have HP := Lib.hid hp
    rw [Bool.false_and]
    clear hp
    go_enter Tryd.func77, Tryd.ntmps77
    go_wp2_with fail
    refine (cut_no l [49, 46] _ HP.out).mono ?_
    rintro e w1 ⟨rfl, rfl⟩
    go_wp2_with fail
    go_ret
    exact ⟨rfl, Below.refl _ _⟩
  | true =>
    have HP := Lib.hid hp
    rw [Bool.true_and]
    have hld : (l.drop 2).length ≤ l.length := by rw [List.length_drop]; omega
    generalize hQ : l.drop 2 = r at *
    have HQ := Lib.hid hQ
    clear hQ hp
    have ht := trimS_nil r cs10
    rw [cs10_all] at ht
    have hT := fun w => trim10_c r w (by omega)
    by_cases h0 : r = []
    · subst h0
      go_enter Tryd.func77, Tryd.ntmps77
      go_wp2_with fail
      refine (cut_yes l [49, 46] _ HP.out).mono ?_
      rw [show l.drop ([49, 46] : List UInt8).length = [] from HQ.out]
      rintro e w1 ⟨rfl, rfl⟩
      go_wp2_with fail
      go_ret
      exact ⟨rfl, Below.refl _ _⟩
    · have he := emp_no h0
      have hr : allOf dec10 r = (Lib.trimS r cs10 == []) := by rw [allOf, he, ht]; rfl
      rw [hr]
      generalize Lib.trimS r cs10 = x at *
      clear ht hr
      go_enter Tryd.func77, Tryd.ntmps77
      go_wp2_with fail
      refine (cut_yes l [49, 46] _ HP.out).mono ?_
      rw [show l.drop ([49, 46] : List UInt8).length = r from HQ.out]
      rintro e w1 ⟨rfl, rfl⟩
      go_wp2_with fail
      refine (hT _).mono ?_
      rintro e w1 ⟨rfl, hb⟩
      cases x with
      | nil =>
        go_wp2_with fail
        go_ret
        exact ⟨rfl, hb⟩
      | cons c t =>
        go_wp2_with fail
        go_ret
        exact ⟨rfl, hb⟩
end Go.Proofs.YtjnmgmepolpcdaaDoor
