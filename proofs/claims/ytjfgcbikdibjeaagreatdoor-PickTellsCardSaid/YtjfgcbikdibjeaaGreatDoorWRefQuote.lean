/- The walks of the document's answer of 5.2: quoted texts. -/
import Derived.Test.YtjfgcbikdibjeaaGreatDoorWRefShow
import Derived.Test.YtjfgcbikdibjeaaGreatDoorWRefU
import Derived.Test.YtjfgcbikdibjeaaGreatDoorWRefRunesB
namespace Go.Proofs.YtjfgcbikdibjeaaGreatDoor
open Go.RowKit U Go.Proofs

set_option maxRecDepth 100000 in
set_option maxHeartbeats 4000000 in
theorem rsingle_c (l : List UInt8) (w : World) (hs : l.length ≤ 1073741824) :
    Calls Tryz.prog 46 #[.string ⟨l.toArray⟩] w fun e w' => e = .returned (.bool (singleM l)) ∧ Below w.heap.size w w' := by
  obtain ⟨S, hS⟩ : ∃ S, singleM l = S := ⟨_, rfl⟩
  rw [hS]
  have hS2 : S = (decide (place l < 0) && (runes l).all okR) := hS.symm
  have hP := fun w => refPlace_c l w (by omega)
  have hR := fun w => refRunes_c l w hs
  have hrl := runes_length l
  have hwl := width_le l
  generalize place l = pl at *
  generalize runes l = rs at *
  have hrs : rs.length ≤ 1073741824 := by omega
  have HS := Lib.hid hS2
  clear hS hS2 hrl hwl
  by_cases hpl : pl < 0
  · have g : decide (0 ≤ pl) = false := by simp; omega
    have HS2 : Hid (S = rs.all okR) := Lib.hid (by rw [HS.out, decide_eq_true hpl, Bool.true_and])
    clear HS
    go_enter Tryz.func46, Tryz.ntmps46
    go_wp2_with fail
    refine (hP _).mono ?_
    rintro e w1 ⟨rfl, rfl⟩
    go_wp2_with fail
    refine (hR _).mono ?_
    rintro e w1 ⟨ra, rc, rfl, hown, hb⟩
    obtain ⟨va, vc, hva, hcell⟩ := Sl.ints (k := .i32) (Sl.own hown)
    rw [hva]
    have HC := Lib.hid hcell
    clear hcell hva hown hR hP
    go_wp2_with fail
    go_loop [4] (fun x => ∃ i : Nat, i ≤ rs.length ∧ x = .int .i64 i ∧ Hid (S = (rs.drop i).all okR)) (fun x => rs.length - (intOf x).toNat)
    case atStart => exact ⟨0, Nat.zero_le _, rfl, Lib.hid (by rw [List.drop_zero]; exact HS2.out)⟩
    case round =>
      obtain ⟨i, hi, rfl, HR⟩ := hrel
      by_cases hlt : i < rs.length
      · obtain ⟨b, off, rfl, hbw, hck⟩ := HC.out i hlt
        have hst : S = (okR (rs[i]'hlt) && (rs.drop (i + 1)).all okR) := by rw [HR.out, List.drop_eq_getElem_cons hlt, List.all_cons]
        generalize (rs[i]'hlt) = r at *
        have HSt := Lib.hid hst
        have hPr := fun w => refPrintable_c r w
        clear hst HR HS2
        cases hp : printable r with
        | false =>
          rw [hp] at hPr
          have HE : Hid (S = false) := Lib.hid (by rw [HSt.out, show okR r = false by unfold okR; rw [hp]; rfl]; rfl)
          clear hp HSt
          go_wp2_with fail
          refine (hPr _).mono ?_
          rintro e w2 ⟨rfl, rfl⟩
          go_wp2_with fail
          go_ret
          exact ⟨ret_bool (by rw [HE.out]), hb⟩
        | true =>
          rw [hp] at hPr
          by_cases h10 : r = 10
          · have g10 : (r == 10) = true := by rw [h10]; rfl
            have HE : Hid (S = false) := Lib.hid (by rw [HSt.out, show okR r = false by unfold okR; rw [h10]; decide]; rfl)
            clear hp HSt h10
            go_wp2_with fail
            refine (hPr _).mono ?_
            rintro e w2 ⟨rfl, rfl⟩
            go_wp2_with fail
            go_ret
            exact ⟨ret_bool (by rw [HE.out]), hb⟩
          · have g10 : (r == 10) = false := by rw [beq_eq_false_iff_ne]; exact h10
            have HR2 : Hid (S = (rs.drop (i + 1)).all okR) := Lib.hid (by rw [HSt.out, show okR r = true by unfold okR; rw [hp, decide_eq_true h10]; rfl, Bool.true_and])
            clear hp HSt h10
            go_wp2_with fail
            refine (hPr _).mono ?_
            rintro e w2 ⟨rfl, rfl⟩
            go_wp2_with fail
            go_round
            case rel => exact ⟨i + 1, by omega, by go_num, HR2⟩
            case measure => simp [intOf]; omega
      · have HE : Hid (S = true) := Lib.hid (by rw [HR.out, List.drop_eq_nil_of_le (by omega)]; rfl)
        clear HR HS2
        go_wp2_with fail
        go_ret
        exact ⟨ret_bool (by rw [HE.out]), hb⟩
  · have g : decide (0 ≤ pl) = true := by simp; omega
    have HE : Hid (S = false) := Lib.hid (by rw [HS.out, decide_eq_false hpl]; rfl)
    clear HS
    go_enter Tryz.func46, Tryz.ntmps46
    go_wp2_with fail
    refine (hP _).mono ?_
    rintro e w1 ⟨rfl, rfl⟩
    go_wp2_with fail
    go_ret
    exact ⟨ret_bool (by rw [HE.out]), Below.refl _ _⟩
theorem dbl_take {l : List UInt8} {i : Nat} (h : i < l.length) : dbl (l.take (i + 1)) = dbl (l.take i) ++ (if (l[i]'h) = 39 then [39, 39] else [l[i]'h]) := by
  rw [List.take_succ_eq_append_getElem h, dbl_append]
  simp [dbl]
theorem shows_take {rs : List Int} {i : Nat} (h : i < rs.length) : showsM (rs.take (i + 1)) = showsM (rs.take i) ++ showM (rs[i]'h) := by
  unfold showsM
  rw [List.take_succ_eq_append_getElem h, List.flatMap_append]
  simp
set_option maxRecDepth 100000 in
set_option maxHeartbeats 8000000 in
theorem rquote_c (l : List UInt8) (s : Bool) (w : World) (hs : l.length ≤ 1000000) :
    Calls Tryz.prog 59 #[.string ⟨l.toArray⟩, .bool s] w fun e w' => e = .returned (.string ⟨(quoteM l s).toArray⟩) ∧ Below w.heap.size w w' := by
  have hQ : quoteM l s = if s && singleM l then [39] ++ dbl l ++ [39] else [34] ++ showsM (runes l) ++ [34] := rfl
  generalize quoteM l s = Q at *
  have HQ := Lib.hid hQ
  clear hQ
  have hSi := fun w => rsingle_c l w (by omega)
  generalize singleM l = si at *
  have hR := fun w => refRunes_c l w (by omega)
  have hrl := runes_length l
  have hwl := width_le l
  generalize runes l = rs at *
  have hrs : rs.length ≤ 1000000 := by omega
  clear hrl hwl
  go_enter Tryz.func59, Tryz.ntmps59
  go_upto_region 1 with fail
  go_cut [14] (fun x wx => x = .bool (s && si) ∧ Below w.heap.size w wx)
  case first =>
    cases s with
    | false =>
      go_wp2_with fail
      go_meet
      exact ⟨rfl, Below.refl _ _⟩
    | true =>
      go_wp2_with fail
      refine (hSi _).mono ?_
      rintro e w1 ⟨rfl, hb⟩
      go_wp2_with fail
      go_meet
      exact ⟨by simp, hb⟩
  case rest =>
    obtain ⟨rfl, hA⟩ := hcut
    clear hSi
    cases hb : (s && si) with
    | true =>
      have HE : Hid (Q = [39] ++ dbl l ++ [39]) := Lib.hid (by rw [HQ.out, if_pos hb])
      clear HQ hb hR
      go_wp2_with fail
      go_loop [5, 6] (fun x y => ∃ (i : Nat) (t : List UInt8), i ≤ l.length ∧ x = .string ⟨t.toArray⟩ ∧ t.length ≤ 1 + 2 * i ∧ y = .int .i64 i ∧ Hid (t = [39] ++ dbl (l.take i))) (fun _ y => l.length - (intOf y).toNat)
      case atStart => exact ⟨0, [39], Nat.zero_le _, rfl, by decide, rfl, Lib.hid rfl⟩
      case round =>
        obtain ⟨i, t, hi, rfl, htl, rfl, HT⟩ := hrel
        by_cases hlt : i < l.length
        · have hdt := dbl_take hlt
          have hg := byt_get l i hlt
          have hi1 : ((i : Int) + 1).toNat = i + 1 := by omega
          have hsl : (l.drop i).take (i + 1 - i) = [l[i]'hlt] := by
            rw [List.drop_eq_getElem_cons hlt, show i + 1 - i = 1 by omega]; rfl
          have hsl2 : List.take 1 (l.drop i) = [l[i]'hlt] := by rw [List.drop_eq_getElem_cons hlt]; rfl
          have hj1 : (i : Int) + 1 ≤ (l.length : Int) := by omega
          have hj2 : (i : Int) ≤ (i : Int) + 1 := by omega
          have hj3 : (0 : Int) ≤ (i : Int) := by omega
          by_cases h39 : byt l i = 39
          · have hc : (l[i]'hlt) = 39 := UInt8.toNat.inj (by rw [hg, h39]; rfl)
            have g39 : ((byt l i : Int) == 39) = true := by rw [h39]; rfl
            have HT2 : Hid (t ++ [39] ++ [39] = [39] ++ dbl (l.take (i + 1))) := Lib.hid (by rw [hdt, if_pos hc, HT.out]; simp)
            rw [hc] at hsl hsl2
            clear hdt hg hc HT h39
            go_wp2_with fail
            go_round
            case rel => exact ⟨i + 1, _, by omega, rfl, by simp; omega, by go_num, Lib.hid (by rw [← HT2.out] <;> simp)⟩
            case measure => simp [intOf]; omega
          · have hc : (l[i]'hlt) ≠ 39 := fun e => h39 (by rw [← hg, e]; rfl)
            have g39 : ((byt l i : Int) == 39) = false := by simp; omega
            have HT2 : Hid (t ++ [l[i]'hlt] = [39] ++ dbl (l.take (i + 1))) := Lib.hid (by rw [hdt, if_neg hc, HT.out]; simp)
            generalize (l[i]'hlt) = c at *
            clear hdt hg hc HT h39
            go_wp2_with fail
            go_round
            case rel => exact ⟨i + 1, _, by omega, rfl, by simp; omega, by go_num, Lib.hid (by rw [← HT2.out] <;> simp)⟩
            case measure => simp [intOf]; omega
        · have HE2 : Hid (Q = t ++ [39]) := Lib.hid (by rw [HE.out, HT.out, List.take_of_length_le (by omega)])
          clear HE HT
          go_wp2_with fail
          go_ret
          exact ⟨ret_str (by rw [HE2.out]), hA⟩
    | false =>
      have HE : Hid (Q = [34] ++ showsM rs ++ [34]) := Lib.hid (by rw [HQ.out, if_neg (by rw [hb]; decide)])
      clear HQ hb
      go_wp2_with fail
      refine (hR _).mono ?_
      rintro e w1 ⟨ra, rc, rfl, hown, hb⟩
      obtain ⟨va, vc, hva, hcell⟩ := Sl.ints (k := .i32) (Sl.own hown)
      rw [hva]
      have hA := hA.trans (hb.mono hA.size)
      have HC := Lib.hid hcell
      clear hcell hva hown hR hb
      go_wp2_with fail
      go_loopw [7, 9] (fun x y wr => ∃ (i : Nat) (t : List UInt8), i ≤ rs.length ∧ x = .string ⟨t.toArray⟩ ∧ t.length ≤ 1 + 10 * i ∧ y = .int .i64 i ∧ Hid (t = [34] ++ showsM (rs.take i)) ∧ Below w1.heap.size w1 wr) (fun _ y _ => rs.length - (intOf y).toNat)
      case atStart => exact ⟨0, [34], Nat.zero_le _, rfl, by decide, rfl, Lib.hid rfl, Below.refl _ _⟩
      case round =>
        obtain ⟨i, t, hi, rfl, htl, rfl, HT, hbw⟩ := hrel
        by_cases hlt : i < rs.length
        · obtain ⟨b, off, rfl, hbk, hck0⟩ := HC.out i hlt
          have hck : wr.cell? ⟨b, off + i, none⟩ = some (.int .i32 (rs[i]'hlt)) := (hbw.cell (p := ⟨b, off + i, none⟩) hbk).trans hck0
          have hst := shows_take hlt
          generalize (rs[i]'hlt) = r at *
          have hsl := show_le r
          have hSh := fun w => rshow_c r w
          generalize showM r = sm at *
          have HT2 : Hid (t ++ sm = [34] ++ showsM (rs.take (i + 1))) := Lib.hid (by rw [hst, HT.out, List.append_assoc])
          clear hst HT hck0
          go_wp2_with fail
          refine (hSh _).mono ?_
          rintro e w2 ⟨rfl, hb2⟩
          go_wp2_with fail
          go_roundw
          case rel => exact ⟨i + 1, t ++ sm, by omega, rfl, by rw [List.length_append]; omega, by go_num, HT2, hbw.trans (hb2.mono hbw.size)⟩
          case measure => simp [intOf]; omega
        · have HE2 : Hid (Q = t ++ [34]) := Lib.hid (by rw [HE.out, HT.out, List.take_of_length_le (by omega)])
          clear HE HT
          go_wp2_with fail
          go_ret
          exact ⟨ret_str (by rw [HE2.out]), hA.trans (hbw.mono hA.size)⟩
end Go.Proofs.YtjfgcbikdibjeaaGreatDoor
