/- The walk of hand.Size at a text's beginning. -/
import Derived.Test.YtjnmgmepolpcdaaDoorWHand2
import Derived.Test.YtjnmgmepolpcdaaDoorWHand3
import Derived.Test.YtjnmgmepolpcdaaDoorPSize
namespace Go.Proofs.YtjnmgmepolpcdaaDoor
open Go.RowKit U Go.Proofs

theorem hasPre_c (l p : List UInt8) (w : World) (b : Bool) (h : p.isPrefixOf l = b) :
    Calls Tryd.prog 106 #[.string ⟨l.toArray⟩, .string ⟨p.toArray⟩] w fun e w' => e = .returned (.bool b) ∧ w = w' := by
  refine (Tryd.strings_HasPrefix ⟨l.toArray⟩ ⟨p.toArray⟩ w).mono ?_
  rintro e w' ⟨rfl, rfl⟩
  exact ⟨ret_bool h, rfl⟩
set_option maxRecDepth 100000 in
set_option maxHeartbeats 8000000 in
theorem size0_c (l : List UInt8) (w : World) (hs : l.length ≤ 1073741824) : Calls Tryd.prog 112 #[.string ⟨l.toArray⟩, .int .i64 0] w fun e w' => e = .returned (.int .i64 (sizeM l)) ∧ w = w' := by
  by_cases h0 : l = []
  · subst h0
    go_enter Tryd.func112, Tryd.ntmps112
    go_wp2_with fail
    go_ret
    exact ⟨rfl, rfl⟩
  have hp : 0 < l.length := List.length_pos_iff.2 h0
  by_cases h33 : byt l 0 = 33
  · have n33 : ((byt l 0 : Int) != 33) = false := by simp; omega
    have hM : sizeM l = if pre2 33 60 l = true ∧ 0 < urisM false (l.drop 2) ∧ [62].isPrefixOf ((l.drop 2).drop (urisM false (l.drop 2))) = true then urisM false (l.drop 2) + 3 else sizeR l := by
      rw [sizeM, if_neg (fun h => h.elim h0 (fun h2 => h2 h33))]
    have hR : sizeR l = if 0 < handleM l ∧ 0 < urisM true (l.drop (handleM l)) then handleM l + urisM true (l.drop (handleM l)) else 1 + urisM true (l.drop 1) := rfl
    have hH := fun w => hhandle_c l w hs hp
    have hhl := handleM_le l
    have hd1 : l.drop 1 = l.tail := List.drop_one
    have hU1 := fun w => uris_c l.tail true w (by rw [List.length_tail]; omega)
    have hUh := fun w => uris_c (l.drop (handleM l)) true w (by rw [List.length_drop]; omega)
    have hU2 := fun w => uris_c (l.drop 2) false w (by rw [List.length_drop]; omega)
    have hl1 := urisM_le true l.tail
    have hlh := urisM_le true (l.drop (handleM l))
    have hl2 := urisM_le false (l.drop 2)
    have hlt : l.tail.length ≤ l.length := by rw [List.length_tail]; omega
    have hld : (l.drop 2).length ≤ l.length := by rw [List.length_drop]; omega
    have hlh2 : (l.drop (handleM l)).length ≤ l.length := by rw [List.length_drop]; omega
    rw [hd1] at hR
    generalize hQ : l.drop 2 = r at *
    have HQ := Lib.hid hQ
    clear hQ hd1 h33
    generalize handleM l = h at *
    generalize urisM true l.tail = n1 at *
    generalize urisM true (l.drop h) = nh at *
    generalize urisM false r = n2 at *
    cases hpre : pre2 33 60 l with
    | true =>
      have HP : Hid ([33, 60].isPrefixOf l = true) := Lib.hid hpre
      by_cases hz : n2 = 0
      · subst hz
        have hC : sizeM l = sizeR l := by rw [hM, if_neg (fun hx => by omega)]
        by_cases hh : h = 0
        · have HM : Hid (sizeM l = 1 + n1) := Lib.hid (by rw [hC, hR, if_neg (fun hx => by omega)])
          clear hM hR hC
          go_enter Tryd.func112, Tryd.ntmps112
          go_wp2_with fail
          refine (cut_yes l [33, 60] _ HP.out).mono ?_
          rw [show l.drop ([33, 60] : List UInt8).length = r from HQ.out]
          rintro e w1 ⟨rfl, rfl⟩
          go_wp2_with fail
          refine (hU2 _).mono ?_
          rintro e w1 ⟨rfl, rfl⟩
          go_wp2_with fail
          refine (hH _).mono ?_
          rintro e w1 ⟨rfl, rfl⟩
          go_wp2_with fail
          refine (hU1 _).mono ?_
          rintro e w1 ⟨rfl, rfl⟩
          go_wp2_with fail
          go_ret
          exact ⟨ret_int (by rw [HM.out]; go_num), rfl⟩
        by_cases hn : nh = 0
        · have HM : Hid (sizeM l = 1 + n1) := Lib.hid (by rw [hC, hR, if_neg (fun hx => by omega)])
          clear hM hR hC
          go_enter Tryd.func112, Tryd.ntmps112
          go_wp2_with fail
          refine (cut_yes l [33, 60] _ HP.out).mono ?_
          rw [show l.drop ([33, 60] : List UInt8).length = r from HQ.out]
          rintro e w1 ⟨rfl, rfl⟩
          go_wp2_with fail
          refine (hU2 _).mono ?_
          rintro e w1 ⟨rfl, rfl⟩
          go_wp2_with fail
          refine (hH _).mono ?_
          rintro e w1 ⟨rfl, rfl⟩
          go_wp2_with fail
          refine (hUh _).mono ?_
          rintro e w1 ⟨rfl, rfl⟩
          go_wp2_with fail
          refine (hU1 _).mono ?_
          rintro e w1 ⟨rfl, rfl⟩
          go_wp2_with fail
          go_ret
          exact ⟨ret_int (by rw [HM.out]; go_num), rfl⟩
        have HM : Hid (sizeM l = h + nh) := Lib.hid (by rw [hC, hR, if_pos ⟨by omega, by omega⟩])
        clear hM hR hC
        go_enter Tryd.func112, Tryd.ntmps112
        go_wp2_with fail
        refine (cut_yes l [33, 60] _ HP.out).mono ?_
        rw [show l.drop ([33, 60] : List UInt8).length = r from HQ.out]
        rintro e w1 ⟨rfl, rfl⟩
        go_wp2_with fail
        refine (hU2 _).mono ?_
        rintro e w1 ⟨rfl, rfl⟩
        go_wp2_with fail
        refine (hH _).mono ?_
        rintro e w1 ⟨rfl, rfl⟩
        go_wp2_with fail
        refine (hUh _).mono ?_
        rintro e w1 ⟨rfl, rfl⟩
        go_wp2_with fail
        go_ret
        exact ⟨ret_int (by rw [HM.out]; go_num), rfl⟩
      · cases hg : [62].isPrefixOf (r.drop n2) with
        | true =>
          have HG := Lib.hid hg
          have HM : Hid (sizeM l = n2 + 3) := Lib.hid (by rw [hM, if_pos ⟨hpre, by omega, hg⟩])
          clear hM hR hg hpre
          go_enter Tryd.func112, Tryd.ntmps112
          go_wp2_with fail
          refine (cut_yes l [33, 60] _ HP.out).mono ?_
          rw [show l.drop ([33, 60] : List UInt8).length = r from HQ.out]
          rintro e w1 ⟨rfl, rfl⟩
          go_wp2_with fail
          refine (hU2 _).mono ?_
          rintro e w1 ⟨rfl, rfl⟩
          go_wp2_with fail
          refine (hasPre_c _ [62] _ true HG.out).mono ?_
          rintro e w1 ⟨rfl, rfl⟩
          go_wp2_with fail
          go_ret
          exact ⟨ret_int (by rw [HM.out]; go_num), rfl⟩
        | false =>
          have HG := Lib.hid hg
          have hC : sizeM l = sizeR l := by rw [hM, if_neg (fun hx => by rw [HG.out] at hx; exact absurd hx.2.2 (by decide))]
          by_cases hh : h = 0
          · have HM : Hid (sizeM l = 1 + n1) := Lib.hid (by rw [hC, hR, if_neg (fun hx => by omega)])
            clear hM hR hC
            go_enter Tryd.func112, Tryd.ntmps112
            go_wp2_with fail
            refine (cut_yes l [33, 60] _ HP.out).mono ?_
            rw [show l.drop ([33, 60] : List UInt8).length = r from HQ.out]
            rintro e w1 ⟨rfl, rfl⟩
            go_wp2_with fail
            refine (hU2 _).mono ?_
            rintro e w1 ⟨rfl, rfl⟩
            go_wp2_with fail
            refine (hasPre_c _ [62] _ false HG.out).mono ?_
            rintro e w1 ⟨rfl, rfl⟩
            go_wp2_with fail
            refine (hH _).mono ?_
            rintro e w1 ⟨rfl, rfl⟩
            go_wp2_with fail
            refine (hU1 _).mono ?_
            rintro e w1 ⟨rfl, rfl⟩
            go_wp2_with fail
            go_ret
            exact ⟨ret_int (by rw [HM.out]; go_num), rfl⟩
          by_cases hn : nh = 0
          · have HM : Hid (sizeM l = 1 + n1) := Lib.hid (by rw [hC, hR, if_neg (fun hx => by omega)])
            clear hM hR hC
            go_enter Tryd.func112, Tryd.ntmps112
            go_wp2_with fail
            refine (cut_yes l [33, 60] _ HP.out).mono ?_
            rw [show l.drop ([33, 60] : List UInt8).length = r from HQ.out]
            rintro e w1 ⟨rfl, rfl⟩
            go_wp2_with fail
            refine (hU2 _).mono ?_
            rintro e w1 ⟨rfl, rfl⟩
            go_wp2_with fail
            refine (hasPre_c _ [62] _ false HG.out).mono ?_
            rintro e w1 ⟨rfl, rfl⟩
            go_wp2_with fail
            refine (hH _).mono ?_
            rintro e w1 ⟨rfl, rfl⟩
            go_wp2_with fail
            refine (hUh _).mono ?_
            rintro e w1 ⟨rfl, rfl⟩
            go_wp2_with fail
            refine (hU1 _).mono ?_
            rintro e w1 ⟨rfl, rfl⟩
            go_wp2_with fail
            go_ret
            exact ⟨ret_int (by rw [HM.out]; go_num), rfl⟩
          have HM : Hid (sizeM l = h + nh) := Lib.hid (by rw [hC, hR, if_pos ⟨by omega, by omega⟩])
          clear hM hR hC
          go_enter Tryd.func112, Tryd.ntmps112
          go_wp2_with fail
          refine (cut_yes l [33, 60] _ HP.out).mono ?_
          rw [show l.drop ([33, 60] : List UInt8).length = r from HQ.out]
          rintro e w1 ⟨rfl, rfl⟩
          go_wp2_with fail
          refine (hU2 _).mono ?_
          rintro e w1 ⟨rfl, rfl⟩
          go_wp2_with fail
          refine (hasPre_c _ [62] _ false HG.out).mono ?_
          rintro e w1 ⟨rfl, rfl⟩
          go_wp2_with fail
          refine (hH _).mono ?_
          rintro e w1 ⟨rfl, rfl⟩
          go_wp2_with fail
          refine (hUh _).mono ?_
          rintro e w1 ⟨rfl, rfl⟩
          go_wp2_with fail
          go_ret
          exact ⟨ret_int (by rw [HM.out]; go_num), rfl⟩
    | false =>
      have HP : Hid ([33, 60].isPrefixOf l = false) := Lib.hid hpre
      have hC : sizeM l = sizeR l := by rw [hM, if_neg (fun hx => by rw [hpre] at hx; exact absurd hx.1 (by decide))]
      by_cases hh : h = 0
      · have HM : Hid (sizeM l = 1 + n1) := Lib.hid (by rw [hC, hR, if_neg (fun hx => by omega)])
        clear hM hR hC
        go_enter Tryd.func112, Tryd.ntmps112
        go_wp2_with fail
        refine (cut_no l [33, 60] _ HP.out).mono ?_
        rintro e w1 ⟨rfl, rfl⟩
        go_wp2_with fail
        refine (hH _).mono ?_
        rintro e w1 ⟨rfl, rfl⟩
        go_wp2_with fail
        refine (hU1 _).mono ?_
        rintro e w1 ⟨rfl, rfl⟩
        go_wp2_with fail
        go_ret
        exact ⟨ret_int (by rw [HM.out]; go_num), rfl⟩
      by_cases hn : nh = 0
      · have HM : Hid (sizeM l = 1 + n1) := Lib.hid (by rw [hC, hR, if_neg (fun hx => by omega)])
        clear hM hR hC
        go_enter Tryd.func112, Tryd.ntmps112
        go_wp2_with fail
        refine (cut_no l [33, 60] _ HP.out).mono ?_
        rintro e w1 ⟨rfl, rfl⟩
        go_wp2_with fail
        refine (hH _).mono ?_
        rintro e w1 ⟨rfl, rfl⟩
        go_wp2_with fail
        refine (hUh _).mono ?_
        rintro e w1 ⟨rfl, rfl⟩
        go_wp2_with fail
        refine (hU1 _).mono ?_
        rintro e w1 ⟨rfl, rfl⟩
        go_wp2_with fail
        go_ret
        exact ⟨ret_int (by rw [HM.out]; go_num), rfl⟩
      have HM : Hid (sizeM l = h + nh) := Lib.hid (by rw [hC, hR, if_pos ⟨by omega, by omega⟩])
      clear hM hR hC
      go_enter Tryd.func112, Tryd.ntmps112
      go_wp2_with fail
      refine (cut_no l [33, 60] _ HP.out).mono ?_
      rintro e w1 ⟨rfl, rfl⟩
      go_wp2_with fail
      refine (hH _).mono ?_
      rintro e w1 ⟨rfl, rfl⟩
      go_wp2_with fail
      refine (hUh _).mono ?_
      rintro e w1 ⟨rfl, rfl⟩
      go_wp2_with fail
      go_ret
      exact ⟨ret_int (by rw [HM.out]; go_num), rfl⟩
  · have n33 : ((byt l 0 : Int) != 33) = true := by simp; omega
    have HM : Hid (sizeM l = 0) := Lib.hid (by rw [sizeM, if_pos (.inr h33)])
    go_enter Tryd.func112, Tryd.ntmps112
    go_wp2_with fail
    go_ret
    exact ⟨ret_int (by rw [HM.out]; rfl), rfl⟩
end Go.Proofs.YtjnmgmepolpcdaaDoor
