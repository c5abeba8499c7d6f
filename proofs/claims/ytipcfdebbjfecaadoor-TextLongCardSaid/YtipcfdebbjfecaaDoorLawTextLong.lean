/- The walk of bosketlaw2.TextLong. -/
import Derived.Test.YtipcfdebbjfecaaDoorLawText0
import Derived.Test.YtipcfdebbjfecaaDoorWLow
import Derived.Test.YtipcfdebbjfecaaDoorPText3
namespace Go.Proofs.YtipcfdebbjfecaaDoor
open Go.RowKit U Go.Proofs

/-- A row of k bytes of which j are letters. -/
def fillTo (k j : Nat) : List Value := Lib.byteCells (List.replicate j 97 ++ List.replicate (k - j) 0)
theorem fill_length (k j : Nat) (h : j ≤ k) : (fillTo k j).length = k := by simp [fillTo, Lib.byteCells]; omega
theorem fill_start (k : Nat) : (madeCells #[Value.int .u8 0] k).toList = fillTo k 0 := by
  refine List.ext_getElem ?_ fun i h2 h3 => ?_
  · simp [madeCells, fillTo, Lib.byteCells]
  · simp [madeCells, fillTo, Lib.byteCells, Nat.mod_one]
theorem fill_at {k j : Nat} (h : j < k) : (fillTo k j)[j]? = some (.int .u8 0) := by
  simp [fillTo, Lib.byteCells, List.getElem?_append, List.getElem?_replicate]
  omega
theorem fill_set {k j : Nat} (h : j < k) : (fillTo k j).set j (.int .u8 97) = fillTo k (j + 1) := by
  obtain ⟨d, rfl⟩ : ∃ d, k = j + (d + 1) := ⟨k - j - 1, by omega⟩
  unfold fillTo Lib.byteCells
  rw [show j + (d + 1) - j = d + 1 by omega, show j + (d + 1) - (j + 1) = d by omega, List.replicate_succ (n := d), List.replicate_succ' (n := j)]
  simp
theorem fill_all (k : Nat) : fillTo k k = Lib.byteCells (List.replicate k 97) := by simp [fillTo]
theorem fill_bad {k : Nat} (h : 3 ≤ k) : (fillTo k k).set (k - 3) (.int .u8 1) = Lib.byteCells (List.replicate (k - 3) 97 ++ 1 :: List.replicate 2 97) := by
  obtain ⟨d, rfl⟩ : ∃ d, k = d + 3 := ⟨k - 3, by omega⟩
  rw [fill_all, show d + 3 - 3 = d by omega, show List.replicate (d + 3) (97 : UInt8) = List.replicate d 97 ++ 97 :: List.replicate 2 97 by
    rw [show d + 3 = d + (2 + 1) from rfl, ← List.replicate_append_replicate]; rfl]
  simp [Lib.byteCells]
theorem fill_three {k : Nat} (h : 3 ≤ k) : (fillTo k k)[k - 3]? = some (.int .u8 97) := by
  rw [fill_all]
  simp [Lib.byteCells, List.getElem?_replicate]
  omega

theorem Tryd.info_u8 : (Tryd.prog.info? 5).map (fun i => (i.zero, i.size, i.bytes)) = some (some (.int .u8 0), 1, 1) := by kernel_rfl

set_option maxRecDepth 100000 in
set_option maxHeartbeats 2000000 in
theorem textLong_c (n : Int) (bd : Bool) (w : World) (hE : Env w) (_hn0 : -9223372036854775808 ≤ n) (_hn1 : n ≤ 9223372036854775807) :
    Calls Tryd.prog 14 #[.int .i64 n, .bool bd] w fun e w' => e = .returned (.bool true) ∧ Below w.heap.size w w' := by
  have hA := At.refl hE
  obtain ⟨i0, hi, hz0, hz1, hz2⟩ := info_parts Tryd.info_u8
  have hx := low_lt n 5 (by omega)
  generalize hX : low n 5 = x at *
  have HX := Lib.hid hX
  clear hX
  obtain ⟨k, hk1, hk2⟩ : ∃ k : Nat, k ≤ 65534 + x ∧ 65534 + x ≤ k := ⟨65534 + x, Nat.le_refl _, Nat.le_refl _⟩
  go_enter Tryd.func14, Tryd.ntmps14
  go_wp2_with fail
  refine (low_c n 5 _ (by omega) (by omega)).mono ?_
  rw [HX.out]
  rintro e w1 ⟨rfl, rfl⟩
  go_wp2_with (at_make; refine wpList_make_full _ rfl _ _ 41 rfl w.heap.size 5 i0 (.int .u8 0) 1 Tryd.underlying41 hi hz0 hz1 _ _ _ _ k rfl rfl (by omega) (by omega) ?b2 ?b3 (Nat.le_refl _) ?_)
  case b2 => rw [hz2]; omega
  case b3 => unfold maxLen; omega
  intro w0 hown0 hgrow0
  have hA : At w w0 := hA.on ((Below.refl _ _).grown hgrow0 (Nat.le_refl _) (fun k h => by cases h))
  rw [fill_start] at hown0
  clear hgrow0
  go_wp2_with fail
  rw [show (65534 + (x : Int)) = (k : Int) by omega]
  go_loopw [7] (fun i wr => ∃ j : Nat, j ≤ k ∧ i = .int .i64 j ∧ wr.ownsRow w.heap.size 5 1 (.slice (some ⟨w.heap.size, 0, none⟩) k k) k (fillTo k j) ∧ At w wr) (fun i _ => k - (intOf i).toNat)
  case atStart => exact ⟨0, Nat.zero_le _, rfl, hown0, hA⟩
  case round =>
    clear hown0 hA
    obtain ⟨j, hj, rfl, hown, hA⟩ := hrel
    by_cases hlt : j < k
    · have hc := hown.cellAt j (by omega)
      have hf := hown.frozenAt j
      rw [fill_at hlt] at hc
      go_wp2_with fail
      go_roundw
      case rel =>
        have h2 := (hown.stored j (.int .u8 97)).1
        rw [fill_set hlt] at h2
        exact ⟨j + 1, by omega, by go_num, h2, hA.setCell (Nat.le_refl _) _⟩
      case measure => simp [intOf]; omega
    · obtain rfl : j = k := by omega
      have hgl := clean_long (k := j) (by omega)
      have hgb := clean_bad (k := j - 3) (j := 2) (by omega)
      have hr3 : (j - 3 : Nat) + 1 + 2 = j := by omega
      have hlen : (Lib.byteCells (List.replicate j 97)).length = j := by simp [Lib.byteCells]
      have hlr : (List.replicate j (97 : UInt8)).length = j := by simp
      have hlr2 : (List.replicate (j - 3) (97 : UInt8) ++ 1 :: List.replicate 2 97).length = j := by simp; omega
      have ho1 := clean_over (l := List.replicate j (97 : UInt8))
      have ho2 := clean_over (l := List.replicate (j - 3) (97 : UInt8) ++ 1 :: List.replicate 2 97)
      rw [hlr] at ho1
      rw [hlr2] at ho2
      cases bd with
      | true =>
        have hc := hown.cellAt (j - 3) (by omega)
        have hf := hown.frozenAt (j - 3)
        rw [fill_three (by omega)] at hc
        have h2 := (hown.stored (j - 3) (.int .u8 1)).1
        rw [fill_bad (by omega)] at h2
        have hA := hA.setCell (p := ⟨w.heap.size, j - 3, none⟩) (Nat.le_refl _) (.int .u8 1)
        have HS := Sl.own h2
        generalize hL : List.replicate (j - 3) (97 : UInt8) ++ 1 :: List.replicate 2 97 = l at *
        have hq : 65536 < j ∨ j ≤ 65536 := by omega
        rcases hq with hq | hq
        · have hcl := Lib.hid (ho2 hq)
          clear hgl hgb ho1 ho2 hL hlen hlr h2 hown hr3
          go_wp2_with fail
          refine (clean_c l _ _ hA.env HS (by omega)).mono ?_
          rw [hcl.out]
          rintro e w2 ⟨rfl, hb⟩
          have hA := hA.step hb
          clear hb
          go_wp2_with fail
          refine (awake2_c _ hA.env).mono ?_
          rintro e w3 ⟨rfl, hb⟩
          have hA := hA.step hb
          clear hb
          go_wp2_with fail
          go_ret
          exact ⟨rfl, hA.below⟩
        · have hz := hgb (by omega)
          have hcl := Lib.hid hz
          clear hz hgl hgb ho1 ho2 hL hlen hlr h2 hown hr3
          have h3 : ((j - 3 : Nat) : Int) = (j : Int) - 3 := by omega
          rw [h3] at hcl
          clear h3
          go_wp2_with fail
          refine (clean_c l _ _ hA.env HS (by omega)).mono ?_
          rw [hcl.out]
          rintro e w2 ⟨rfl, hb⟩
          have hA := hA.step hb
          clear hb
          go_wp2_with fail
          refine (awake2_c _ hA.env).mono ?_
          rintro e w3 ⟨rfl, hb⟩
          have hA := hA.step hb
          clear hb
          go_wp2_with fail
          go_ret
          exact ⟨rfl, hA.below⟩
      | false =>
        have hown2 := hown
        rw [fill_all] at hown2
        have HS := Sl.own hown2
        generalize hL : List.replicate j (97 : UInt8) = l at *
        have hq : 65536 < j ∨ j ≤ 65536 := by omega
        rcases hq with hq | hq
        · have hcl := Lib.hid (ho1 hq)
          clear hgl hgb ho1 ho2 hL hlen hlr2 hown2 hown hr3
          go_wp2_with fail
          refine (clean_c l _ _ hA.env HS (by omega)).mono ?_
          rw [hcl.out]
          rintro e w2 ⟨rfl, hb⟩
          have hA := hA.step hb
          clear hb
          go_wp2_with fail
          refine (awake2_c _ hA.env).mono ?_
          rintro e w3 ⟨rfl, hb⟩
          have hA := hA.step hb
          clear hb
          go_wp2_with fail
          go_ret
          exact ⟨rfl, hA.below⟩
        · have hz := hgl hq
          have hcl := Lib.hid hz
          clear hz hgl hgb ho1 ho2 hL hlen hlr2 hown2 hown hr3
          go_wp2_with fail
          refine (clean_c l _ _ hA.env HS (by omega)).mono ?_
          rw [hcl.out]
          rintro e w2 ⟨rfl, hb⟩
          have hA := hA.step hb
          clear hb
          go_wp2_with fail
          refine (awake2_c _ hA.env).mono ?_
          rintro e w3 ⟨rfl, hb⟩
          have hA := hA.step hb
          clear hb
          go_wp2_with fail
          go_ret
          exact ⟨rfl, hA.below⟩
end Go.Proofs.YtipcfdebbjfecaaDoor
