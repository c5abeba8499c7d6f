/- The walks of package esca: texts in quotes. -/
import Derived.Test.YtjfgcbikdibjeaaGreatDoorWShow
import Derived.Test.YtjfgcbikdibjeaaGreatDoorWPlace
import Derived.Test.YtjfgcbikdibjeaaGreatDoorBldByte
import Derived.Test.YtjfgcbikdibjeaaGreatDoorBldStr
import Derived.Deep.DeepCutAuto
namespace Go.Proofs.YtjfgcbikdibjeaaGreatDoor
open Go.RowKit U Go.Proofs

/-- The code points from a place on, and whether each may stand in single quotes. -/
def okFrom (l : List UInt8) (pos : Nat) : Bool := (units pos (l.drop pos)).all fun u => okR (u.2.1 : Int)
theorem okFrom_zero (l : List UInt8) : okFrom l 0 = (runes l).all okR := by
  unfold okFrom runes
  rw [List.drop_zero, List.all_map]
  rfl
set_option maxRecDepth 100000 in
set_option maxHeartbeats 2000000 in
theorem single_c (l : List UInt8) (w : World) (hE : Env w) (hs : l.length ≤ 1073741824) :
    Calls Tryz.prog 33 #[.string ⟨l.toArray⟩] w fun e w' => e = .returned (.bool (singleM l)) ∧ Below w.heap.size w w' := by
  have hA := At.refl hE
  obtain ⟨S, hS⟩ : ∃ S, singleM l = S := ⟨_, rfl⟩
  rw [hS]
  have hS2 : S = (decide (place l < 0) && okFrom l 0) := by rw [okFrom_zero]; exact hS.symm
  have HS := Lib.hid hS2
  have hP := fun w hE => place_c l w hE hs
  clear hS hS2
  generalize place l = pl at *
  go_enter Tryz.func33, Tryz.ntmps33
  go_wp2_with fail
  have hk := hA.below.size
  generalize hK : w.heap.size = k at *
  have HK := Lib.hid hK
  go_loopw [] (fun wr => ∃ pos : Nat, pos ≤ l.length ∧ wr.heap[k]? = some (.stringIter ⟨l.toArray⟩ pos) ∧ At w wr ∧ Hid (S = (decide (pl < 0) && okFrom l pos))) (fun wr => l.length - wr.iterPos k)
  case atStart =>
    refine ⟨0, Nat.zero_le _, ?_, hA.alloc _, HS⟩
    subst hK
    exact World.iter_heap w _ 0
  case round =>
    obtain ⟨pos, hp, hit, hA, HR⟩ := hrel
    by_cases hlt : pos < l.length
    · obtain ⟨r, n, HD, HU, hn1, hn2, hr, hnx, hit2, hbw2, hsz, hsz2⟩ := range_at Tryz.prog hit hlt hA.below (Nat.le_of_eq HK.out)
      have hA2 : At w (wr.iterAt k ⟨l.toArray⟩ (pos + n)) := ⟨hA.start, hbw2⟩
      obtain ⟨W, hWW⟩ : ∃ W, W = wr.iterAt k ⟨l.toArray⟩ (pos + n) := ⟨_, rfl⟩
      rw [← hWW] at hnx hit2 hA2
      have hip : wr.iterPos k = pos := iterPos_of hit
      have hip2 : W.iterPos k = pos + n := iterPos_of hit2
      have HIP := Lib.hid hip
      have HIP2 := Lib.hid hip2
      have HSt : Hid (okFrom l pos = (okR (r : Int) && okFrom l (pos + n))) := Lib.hid (by
        unfold okFrom
        rw [HU.out, List.all_cons])
      clear hWW hbw2 hsz hsz2 hit hip hip2
      have hit := hit2
      by_cases h10 : r = 10
      · have HE : Hid (S = false) := Lib.hid (by rw [HR.out, HSt.out, h10]; simp [okR])
        subst h10
        clear HR HSt
        go_wp2_with fail
        go_ret
        exact ⟨ret_bool (by rw [HE.out]), hA2.below⟩
      · have g10 : ((r : Int) == 10) = false := by simp; omega
        have hPr := fun w => printable_c (r : Int) w
        cases hb : printable (r : Int) with
        | true =>
          rw [hb] at hPr
          have HR2 : Hid (S = (decide (pl < 0) && okFrom l (pos + n))) := Lib.hid (by
            have : okR (r : Int) = true := by
              unfold okR
              rw [hb]
              simp; omega
            rw [HR.out, HSt.out, this, Bool.true_and])
          clear hb HR HSt h10
          go_wp2_with fail
          refine (hPr _).mono ?_
          rintro e w2 ⟨rfl, rfl⟩
          go_wp2_with fail
          refine ⟨⟨pos + n, by omega, hit, hA2, HR2⟩, ?_⟩
          rw [HIP.out, HIP2.out]; omega
        | false =>
          rw [hb] at hPr
          have HE : Hid (S = false) := Lib.hid (by
            have : okR (r : Int) = false := by
              unfold okR
              rw [hb]; rfl
            rw [HR.out, HSt.out, this]; simp)
          clear hb HR HSt h10
          go_wp2_with fail
          refine (hPr _).mono ?_
          rintro e w2 ⟨rfl, rfl⟩
          go_wp2_with fail
          go_ret
          exact ⟨ret_bool (by rw [HE.out]), hA2.below⟩
    · have hnx := range_end Tryz.prog hit hlt
      have HE : Hid (S = decide (pl < 0)) := Lib.hid (by
        rw [HR.out]
        unfold okFrom
        rw [units_end hlt]
        simp)
      have hPp := hP _ hA.env
      go_wp2_with fail
      refine hPp.mono ?_
      rintro e w2 ⟨rfl, hb⟩
      have hA := hA.step hb
      clear hb
      go_wp2_with fail
      go_ret
      exact ⟨ret_bool (by rw [HE.out]), hA.below⟩
/-- A builder stays one while others lay blocks. -/
theorem isB_below {B b : Nat} {l : List UInt8} {w w' : World} (h : IsB B b l w) (hb : Below w.heap.size w w') : IsB B b l w' := by
  have hg : w.grownBy w' none := ⟨hb.os, hb.tape, hb.output, hb.size, fun k hk _ => hb.block k hk⟩
  have key : ∀ p, Lib.BuilderAtF 78 5 B b p (Lib.byteCells l) w → Lib.BuilderAtF 78 5 B b p (Lib.byteCells l) w' := by
    intro p h
    have hlt := h.lt
    obtain ⟨hB, v, hbk, hown, hne⟩ := h
    exact ⟨hB, v, (hb.block b hlt).trans hbk, hown.kept hg (by cases hv : v.ownBlock <;> simp), hne⟩
  exact h.elim (fun x => .inl (key _ x)) (fun x => .inr (key _ x))
/-- What is told from a place on. -/
def showFrom (l : List UInt8) (pos : Nat) : List UInt8 := showsM ((units pos (l.drop pos)).map fun u => (u.2.1 : Int))
theorem showFrom_zero (l : List UInt8) : showFrom l 0 = showsM (runes l) := by unfold showFrom runes; rw [List.drop_zero]
theorem dblq_c (l : List UInt8) (w : World) (hE : Env w) (hs : l.length ≤ 1000000) :
    Calls Tryz.prog 64 #[.string ⟨l.toArray⟩, .string ⟨#[39]⟩, .string ⟨#[39, 39]⟩] w fun e w' => e = .returned (.string ⟨(dbl l).toArray⟩) ∧ Below w.heap.size w w' := by
  have hc : Lib.countB ⟨l.toArray⟩ ⟨#[39]⟩ ≤ l.length + 1 := Lib.count_le _ _
  refine (Tryz.strings_ReplaceAll_shaped ⟨l.toArray⟩ ⟨#[39]⟩ ⟨#[39, 39]⟩ w hE.shaped (by rw [size_mk]; omega) (by decide) (by rw [size_mk, show (⟨#[39, 39]⟩ : ByteArray).size = 2 from rfl]; omega)).mono ?_
  rintro e w' ⟨rfl, hb⟩
  exact ⟨ret_str (repl_dbl l), hb⟩
set_option maxRecDepth 100000 in
set_option maxHeartbeats 4000000 in
theorem quote_c (l : List UInt8) (s : Bool) (w : World) (hE : Env w) (hT : Tz w) (hs : l.length ≤ 1000000) :
    Calls Tryz.prog 34 #[.string ⟨l.toArray⟩, .bool s] w fun e w' => e = .returned (.string ⟨(quoteM l s).toArray⟩) ∧ Below w.heap.size w w' := by
  have hA := At.refl hE
  have hQ : quoteM l s = if s && singleM l then [39] ++ dbl l ++ [39] else [34] ++ showFrom l 0 ++ [34] := by rw [showFrom_zero]; rfl
  generalize quoteM l s = Q at *
  have HQ := Lib.hid hQ
  clear hQ
  have hSi := fun w hE => single_c l w hE (by omega)
  generalize singleM l = si at *
  have hdl := dbl_le l
  have hD := fun w hE => dblq_c l w hE hs
  generalize dbl l = dl at *
  go_enter Tryz.func34, Tryz.ntmps34
  go_upto_region 1 with fail
  go_cut [12] (fun x wx => x = .bool (s && si) ∧ At w wx)
  case first =>
    cases s with
    | false =>
      go_wp2_with fail
      go_meet
      exact ⟨rfl, hA⟩
    | true =>
      go_wp2_with fail
      refine (hSi _ hE).mono ?_
      rintro e w1 ⟨rfl, hb⟩
      have hA := hA.step hb
      go_wp2_with fail
      go_meet
      exact ⟨by simp, hA⟩
  case rest =>
    obtain ⟨rfl, hA⟩ := hcut
    clear hSi
    cases hb : (s && si) with
    | true =>
      have HE : Hid (Q = [39] ++ dl ++ [39]) := Lib.hid (by rw [HQ.out, if_pos hb])
      clear HQ hb
      go_wp2_with fail
      refine (hD _ hA.env).mono ?_
      rintro e w1 ⟨rfl, hb1⟩
      have hA := hA.step hb1
      clear hb1
      go_wp2_with fail
      go_ret
      exact ⟨ret_str (by rw [HE.out]; simp), hA.below⟩
    | false =>
      have HE : Hid (Q = [34] ++ showFrom l 0 ++ [34]) := Lib.hid (by rw [HQ.out, if_neg (by rw [hb]; decide)])
      clear HQ hb hD hdl
      have hTc := hT.below hA.below
      have hI0 : IsB wc.heap.size wc.heap.size [] (wc.alloc (.cells #[.pointer none, .slice none 0 0] 78)) := Lib.IsBuilderF.of (Lib.fresh_isBuilder 78 5 wc)
      have hBA : Below wc.heap.size wc (wc.alloc (.cells #[.pointer none, .slice none 0 0] 78)) := (Below.refl _ _).alloc (Nat.le_refl _) _
      have hBz : wc.heap.size < (wc.alloc (.cells #[.pointer none, .slice none 0 0] 78)).heap.size := by simp
      go_wp2_with fail
      generalize wc.alloc (.cells #[.pointer none, .slice none 0 0] 78) = w0 at *
      refine (bldByte_c wc.heap.size wc.heap.size [] 34 (by decide) _ hI0 (by decide) (by omega)).mono ?_
      rintro e w1 ⟨rfl, h1, b1, _⟩
      have hI1 : IsB wc.heap.size wc.heap.size [34] w1 := h1.is
      have hB1 := hBA.trans b1
      have hz1 : wc.heap.size < w1.heap.size := Nat.lt_of_lt_of_le hBz b1.size
      clear h1 b1 hI0 hBA hBz
      go_wp2_with fail
      generalize hK : w1.heap.size = k at *
      have HK := Lib.hid hK
      go_loopw [] (fun wr => ∃ (pos : Nat) (acc : List UInt8), pos ≤ l.length ∧ acc.length ≤ 1 + 10 * pos ∧ IsB wc.heap.size wc.heap.size acc wr ∧ wr.heap[k]? = some (.stringIter ⟨l.toArray⟩ pos) ∧ Below wc.heap.size wc wr ∧ Hid (acc ++ showFrom l pos = [34] ++ showFrom l 0)) (fun wr => l.length - wr.iterPos k)
      case atStart =>
        refine ⟨0, [34], Nat.zero_le _, by decide, hI1.alloc _, ?_, hB1.alloc (by omega) _, Lib.hid rfl⟩
        subst hK
        exact World.iter_heap w1 _ 0
      case round =>
        obtain ⟨pos, acc, hp, hacc, hI, hit, hbw, HR⟩ := hrel
        by_cases hlt : pos < l.length
        · obtain ⟨r, n, HD, HU, hn1, hn2, hr, hnx, hit2, hbw2, hsz, hsz2⟩ := range_at Tryz.prog hit hlt hbw (by omega)
          have hI2 : IsB wc.heap.size wc.heap.size acc (wr.iterAt k ⟨l.toArray⟩ (pos + n)) := hI.iterAt hit _
          obtain ⟨W, hWW⟩ : ∃ W, W = wr.iterAt k ⟨l.toArray⟩ (pos + n) := ⟨_, rfl⟩
          rw [← hWW] at hnx hit2 hbw2 hI2
          have hip : wr.iterPos k = pos := iterPos_of hit
          have HIP := Lib.hid hip
          have HSt : Hid (showFrom l pos = showM (r : Int) ++ showFrom l (pos + n)) := Lib.hid (by
            unfold showFrom
            rw [HU.out, List.map_cons, showsM_cons])
          have hsl := show_le (r : Int)
          have hSh := show_c (r : Int) W (hTc.below hbw2)
          generalize showM (r : Int) = sm at *
          clear hWW hsz hsz2 hit hip hI
          have hkW : k < W.heap.size := by
            rcases Nat.lt_or_ge k W.heap.size with h | h
            · exact h
            · rw [Array.getElem?_eq_none h] at hit2; cases hit2
          have HIT := Lib.hid hit2
          have HI2 := Lib.hid hI2
          clear hit2 hI2
          go_wp2_with fail
          refine hSh.mono ?_
          rintro e w2 ⟨rfl, hb2⟩
          have hI3 := isB_below HI2.out hb2
          have hit3 : w2.heap[k]? = some (.stringIter ⟨l.toArray⟩ (pos + n)) := (hb2.block k hkW).trans HIT.out
          have hbw3 := hbw2.trans (hb2.mono hbw2.size)
          have hz3 := hbw3.size
          clear hSh
          go_wp2_with fail
          refine (bldStr_c wc.heap.size wc.heap.size acc sm _ hI3 (by omega) hz3).mono ?_
          rintro e w3 ⟨n3, rfl, h3, b3, k3⟩
          have hit4 := k3.iter hit3 (by omega)
          go_wp2_with fail
          refine ⟨⟨pos + n, acc ++ sm, by omega, by rw [List.length_append]; omega, h3.is, hit4, hbw3.trans b3, Lib.hid (by rw [← HR.out, HSt.out, List.append_assoc])⟩, ?_⟩
          rw [HIP.out, iterPos_of hit4]; omega
        · have hnx := range_end Tryz.prog hit hlt
          have HE2 : Hid (Q = acc ++ [34]) := Lib.hid (by
            rw [HE.out, ← HR.out]
            unfold showFrom
            rw [units_end hlt]
            simp [showsM])
          have hz := hbw.size
          go_wp2_with fail
          refine (bldByte_c wc.heap.size wc.heap.size acc 34 (by decide) _ hI (by omega) hz).mono ?_
          rintro e w2 ⟨rfl, h2, b2, _⟩
          have hbw2 := hbw.trans b2
          have hz2 := hbw2.size
          go_wp2_with fail
          refine (Tryz.Builder_String_any_k wc.heap.size wc.heap.size _ _ h2.is hz2).mono ?_
          rintro e w3 ⟨rfl, _, b3, _⟩
          go_wp2_with fail
          go_ret
          exact ⟨ret_str (by rw [HE2.out]), hA.below.trans ((hbw2.trans b3).mono hA.below.size)⟩
end Go.Proofs.YtjfgcbikdibjeaaGreatDoor
