/- The walk of strconv.FormatInt at base 16. -/
import Derived.Test.YtjfgcbikdibjeaaGreatDoorBase
import Derived.Test.YtjfgcbikdibjeaaGreatDoorFrame
import Derived.Test.YtjfgcbikdibjeaaGreatDoorPAllB
import Derived.Lib.EndianBits
namespace Go.Proofs.YtjfgcbikdibjeaaGreatDoor
open Go.RowKit U Go.Proofs

/-- The table by which zeros are counted, at the place of 16. -/
def Tz (w : World) : Prop := w.cell? ⟨5, 15, none⟩ = some (.int .u8 4)
theorem Tz.below {w w' : World} (h : Tz w) (hb : Below w.heap.size w w') : Tz w' := (hb.cell (p := ⟨5, 15, none⟩) (World.block_lt_of_cell? w _ h)).trans h
set_option maxRecDepth 100000 in
set_option maxHeartbeats 1000000 in
theorem pow2_c (w : World) : Calls Tryz.prog 191 #[.int .i64 16] w fun e w' => e = .returned (.bool true) ∧ w = w' := by
  go_enter Tryz.func191, Tryz.ntmps191
  go_wp2_with fail
  go_ret
  exact ⟨ret_bool (by decide +kernel), rfl⟩
set_option maxRecDepth 100000 in
set_option maxHeartbeats 1000000 in
theorem tz64_c (w : World) (h : Tz w) : Calls Tryz.prog 194 #[.int .u64 16] w fun e w' => e = .returned (.int .i64 4) ∧ w = w' := by
  unfold Tz at h
  have hK : IntKind.u64.wrap (bits .and .u64 16 (IntKind.u64.wrap (-16)) * 285870213051353865) / 288230376151711744 = 15 := by decide +kernel
  go_enter Tryz.func194, Tryz.ntmps194
  go_wp2_with fail
  go_ret
  exact ⟨rfl, rfl⟩
set_option maxRecDepth 100000 in
set_option maxHeartbeats 1000000 in
theorem tz_c (w : World) (h : Tz w) : Calls Tryz.prog 192 #[.int .u64 16] w fun e w' => e = .returned (.int .i64 4) ∧ w = w' := by
  have h1 := fun w h => tz64_c w h
  go_enter Tryz.func192, Tryz.ntmps192
  go_wp2_with fail
  refine (h1 _ h).mono ?_
  rintro e w1 ⟨rfl, rfl⟩
  go_wp2_with fail
  go_ret
  exact ⟨rfl, rfl⟩
theorem digit_at : ∀ d, d < 16 → byt [48, 49, 50, 51, 52, 53, 54, 55, 56, 57, 97, 98, 99, 100, 101, 102, 103, 104, 105, 106, 107, 108, 109, 110, 111, 112, 113, 114, 115, 116, 117, 118, 119, 120, 121, 122] d = (hexC d).toNat := by decide
set_option maxRecDepth 100000 in
set_option maxHeartbeats 8000000 in
theorem bits16_c (n : Nat) (w : World) (hn : n ≤ 1114111) (hT : Tz w) :
    Calls Tryz.prog 187 #[.slice none 0 0, .int .u64 n, .int .i64 16, .bool false, .bool false] w fun e w' => e = .returned (.tuple #[.slice none 0 0, .string ⟨(hexS 8 n).toArray⟩]) ∧ Below w.heap.size w w' := by
  have hP := fun w => pow2_c w
  have hZ := fun w h => tz_c w h
  go_enter Tryz.func187, Tryz.ntmps187
  go_wp2_with fail
  refine (hP _).mono ?_
  rintro e w1 ⟨rfl, rfl⟩
  go_wp2_with fail
  have hb0 := (Below.refl w.heap.size w).alloc (Nat.le_refl _) (.cells Tryz.zeroCells187 187)
  refine (hZ _ (hT.below hb0)).mono ?_
  rintro e w1 ⟨rfl, rfl⟩
  have hF0 : Full (w.alloc (.cells Tryz.zeroCells187 187)) w.heap.size 187 (List.replicate 65 (.int .u8 0)) := Full.new w _ _
  generalize w.alloc (.cells Tryz.zeroCells187 187) = w1 at *
  go_wp2_with fail
  go_loopw [1, 13] (fun s x wr => ∃ (u i : Nat) (D : List UInt8) (cs : List Value), s = .int .u64 u ∧ x = .int .i64 i ∧ i + D.length = 65 ∧ D.length ≤ 5 ∧ u ≤ 1114111 ∧ Hid (u * 16 ^ D.length ≤ 1114111) ∧ Hid (hexS (8 - D.length) u ++ D = hexS 8 n) ∧
      Full wr w.heap.size 187 cs ∧ cs.length = 65 ∧ Hid (∀ j (h : j < D.length), cs[i + j]? = some (.int .u8 ((D[j]'h).toNat : Int))) ∧ Below w.heap.size w wr) (fun s _ _ => (intOf s).toNat)
  case atStart => exact ⟨n, 65, [], _, rfl, rfl, rfl, by decide, hn, Lib.hid (by simpa using hn), Lib.hid (by simp), hF0, by simp, Lib.hid (fun j h => by simp at h), hb0⟩
  case round =>
    obtain ⟨u, i, D, cs, rfl, rfl, hiD, hD5, hu, HU, HS, hF, hcs, HC, hbw⟩ := hrel
    obtain ⟨j, rfl⟩ : ∃ j, i = j + 1 := ⟨i - 1, by omega⟩
    obtain ⟨v0, hv0⟩ : ∃ v, cs[j]? = some v := ⟨_, List.getElem?_eq_getElem (by omega)⟩
    have hcj : wr.cell? ⟨w.heap.size, j, none⟩ = some v0 := (hF.cell j).trans hv0
    have hfj := hF.free j
    have hj0 : (0 : Int) ≤ (j : Int) := by omega
    have hj65 : (j : Int) < 65 := by omega
    have HFu := Lib.hid hF
    clear hv0 hF
    by_cases h16 : 16 ≤ u
    · have hand : bits .and .u64 (u : Int) 15 = ((u % 16 : Nat) : Int) := by
        have h := bits_mask .u64 64 (by decide) wraps_u64 4 (by decide) (u : Int) (by omega) (by omega)
        rw [show ((2 : Int) ^ 4 - 1) = 15 by decide] at h
        rw [h]
        omega
      have hdig := digit_at (u % 16) (by omega)
      have hm0 : (0 : Int) ≤ ((u % 16 : Nat) : Int) := by omega
      have hm1 : ((u % 16 : Nat) : Int) < 36 := by omega
      have hm2 : (((u % 16 : Nat) : Int)).toNat = u % 16 := by omega
      have hpw : u / 16 * 16 ^ (D.length + 1) ≤ 1114111 ∧ D.length + 1 ≤ 5 := by
        have h := HU.out
        have h1 : u / 16 * 16 ^ (D.length + 1) ≤ u * 16 ^ D.length := by
          rw [Nat.pow_succ, Nat.mul_comm (16 ^ D.length) 16, ← Nat.mul_assoc]
          exact Nat.mul_le_mul_right _ (by omega)
        refine ⟨by omega, ?_⟩
        rcases Nat.lt_or_ge D.length 5 with h2 | h2
        · omega
        · exfalso
          have h3 : 16 ^ 5 ≤ 16 ^ D.length := Nat.pow_le_pow_right (by decide) h2
          have h4 : 16 * 16 ^ 5 ≤ u * 16 ^ D.length := Nat.mul_le_mul h16 h3
          have h5 : 16 * 16 ^ 5 = 16777216 := by decide
          omega
      have HS2 : Hid (hexS (8 - (D.length + 1)) (u / 16) ++ (hexC (u % 16) :: D) = hexS 8 n) := Lib.hid (by
        rw [← HS.out, show 8 - D.length = (8 - (D.length + 1)) + 1 by omega, hexS, if_neg (by omega)]
        simp)
      have HU2 := Lib.hid hpw.1
      have hD52 := hpw.2
      have hput := HFu.out.put j (.int .u8 ((hexC (u % 16)).toNat : Int))
      have HP := Lib.hid hput
      have HC2 : Hid (∀ k (h : k < (hexC (u % 16) :: D).length), (cs.set j (.int .u8 ((hexC (u % 16)).toNat : Int)))[j + k]? = some (.int .u8 (((hexC (u % 16) :: D)[k]'h).toNat : Int))) := Lib.hid (fun k h => by
        cases k with
        | zero => rw [Nat.add_zero, List.getElem?_set_self (by omega)]; rfl
        | succ k =>
          rw [List.getElem?_set_ne (by omega), show j + (k + 1) = j + 1 + k by omega]
          exact HC.out k (by simpa using h))
      have hsz := hbw.size
      clear hpw hput HS HU HC hT hP hZ
      have hsh : ((u : Nat) : Int).fdiv (2 ^ min (Int.toNat 4) IntKind.u64.bits) = ((u / 16 : Nat) : Int) := by
        show Int.fdiv (u : Int) 16 = _
        rw [Int.fdiv_eq_ediv_of_nonneg _ (by decide)]
        omega
      have hsh2 : (u : Int) / 16 = ((u / 16 : Nat) : Int) := by omega
      have hql : u / 16 < u := by omega
      generalize hexC (u % 16) = dg at *
      generalize hm : u % 16 = mm at *
      clear hm
      have hqu : u / 16 ≤ 1114111 := by omega
      generalize u / 16 = q at *
      go_wp2_with fail
      go_roundw
      case rel => exact ⟨q, j, dg :: D, _, rfl, rfl, by simp; omega, by simp; omega, hqu, HU2, HS2, HP.out, by simpa using hcs, HC2, hbw.setCell (by simp) _⟩
      case measure => simp [intOf]; omega
    · have hdig := digit_at u (by omega)
      have hu36 : (u : Int) < 36 := by omega
      have HE : Hid (hexS 8 n = hexC u :: D) := Lib.hid (by
        rw [← HS.out, show 8 - D.length = (7 - D.length) + 1 by omega, hexS, if_pos (by omega)]
        rfl)
      have hput := HFu.out.put j (.int .u8 ((hexC u).toNat : Int))
      have HP := Lib.hid hput
      have hsl : Sl (wr.setCell ⟨w.heap.size, j, none⟩ (.int .u8 ((hexC u).toNat : Int))) (.slice (some ⟨w.heap.size, j, none⟩) (hexC u :: D).length (hexC u :: D).length) (Lib.byteCells (hexC u :: D)) := by
        refine .inr ⟨w.heap.size, j, (hexC u :: D).length, by simp [Lib.byteCells], by simp [Lib.byteCells], HP.out.lt, fun k x hx => ?_⟩
        rw [HP.out.cell]
        cases k with
        | zero =>
          rw [Nat.add_zero, List.getElem?_set_self (by omega)]
          simpa [Lib.byteCells] using hx
        | succ k =>
          rw [List.getElem?_set_ne (by omega), show j + (k + 1) = j + 1 + k by omega]
          have hk : k < D.length := by
            rcases Nat.lt_or_ge k D.length with h | h
            · exact h
            · have hx2 : (Lib.byteCells D)[k]? = some x := by simpa [Lib.byteCells] using hx
              rw [List.getElem?_eq_none (by simpa [Lib.byteCells] using h)] at hx2
              cases hx2
          rw [HC.out k hk]
          have hx2 : (Lib.byteCells D)[k]? = some x := by simpa [Lib.byteCells] using hx
          simpa [Lib.byteCells, hk] using hx2
      have hcv := run_str_of (P := Tryz.prog) 76 9 5 _ _ hsl Tryz.underlying76 Tryz.underlying5 Tryz.underlying9
      have hlen : (hexC u :: D).length = D.length + 1 := rfl
      have hjle : (j : Int) ≤ 65 := by omega
      have hu162 := Tryz.underlying187
      have hAL : Tryz.prog.arrayLen 187 = 65 := by kernel_rfl
      have hj64 : 65 - j = D.length + 1 := by omega
      have hi64 : (65 : Int) - (j : Int) = ((D.length + 1 : Nat) : Int) := by omega
      rw [hlen] at hcv
      clear hsl hput HS HU HC hT hP hZ hlen
      generalize hexC u = dg at *
      have hsz := hbw.size
      go_wp2_with fail
      go_ret2
      exact ⟨by rw [HE.out]; rfl, hbw.setCell (by simp) _⟩
set_option maxRecDepth 100000 in
set_option maxHeartbeats 2000000 in
theorem fmtInner_c (n : Nat) (w : World) (hn : n ≤ 1114111) (hT : Tz w) :
    Calls Tryz.prog 174 #[.int .i64 n, .int .i64 16] w fun e w' => e = .returned (.string ⟨(hexS 8 n).toArray⟩) ∧ Below w.heap.size w w' := by
  have hB := fun w h => bits16_c n w hn h
  have hc : IntKind.u64.wrap (n : Int) = (n : Int) := wraps_u64 _ (by omega) (by omega)
  generalize hexS 8 n = s at *
  go_enter Tryz.func174, Tryz.ntmps174
  go_wp2_with fail
  refine (hB _ hT).mono ?_
  rintro e w1 ⟨rfl, hb⟩
  go_wp2_with fail
  go_ret
  exact ⟨rfl, hb⟩
set_option maxRecDepth 100000 in
set_option maxHeartbeats 2000000 in
theorem fmtInt_c (n : Nat) (w : World) (hn : n ≤ 1114111) (hT : Tz w) :
    Calls Tryz.prog 148 #[.int .i64 n, .int .i64 16] w fun e w' => e = .returned (.string ⟨(hexS 8 n).toArray⟩) ∧ Below w.heap.size w w' := by
  have hB := fun w h => fmtInner_c n w hn h
  generalize hexS 8 n = s at *
  go_enter Tryz.func148, Tryz.ntmps148
  go_wp2_with fail
  refine (hB _ hT).mono ?_
  rintro e w1 ⟨rfl, hb⟩
  go_wp2_with fail
  go_ret
  exact ⟨rfl, hb⟩
theorem ite_min16 (a b : Int) : (if b < a then b else a) = min a b := by omega
theorem ite_max16 (a b : Int) : (if a < b then b else a) = max a b := by omega
theorem zeros_at (k m : Nat) : (List.replicate k (48 : UInt8)).drop m = List.replicate (k - m) 48 := by rw [List.drop_replicate]
attribute [local go_sem] ite_min16 ite_max16
set_option maxRecDepth 100000 in
set_option maxHeartbeats 2000000 in
theorem coded_c (n : Nat) (w : World) (hn : n ≤ 1114111) (hT : Tz w) :
    Calls Tryz.prog 111 #[.int .i32 n] w fun e w' => e = .returned (.string ⟨(codedM n).toArray⟩) ∧ Below w.heap.size w w' := by
  have hB := fun w h => fmtInt_c n w hn h
  have hm : codedM n = if n ≤ 255 then [92, 120] ++ hexE 2 n else if n ≤ 65535 then [92, 117] ++ hexE 4 n else [92, 85] ++ hexE 8 n := rfl
  by_cases h1 : n ≤ 255
  · obtain ⟨e1, e2, e3⟩ := hexS_pad 2 8 n (by omega) (by decide) (by decide)
    have HE : Hid (codedM n = [92, 120] ++ (List.drop (hexS 8 n).length [48, 48] ++ hexS 8 n)) := Lib.hid (by
      rw [hm, if_pos h1, ← e1, show ([48, 48] : List UInt8) = List.replicate 2 48 from rfl, zeros_at])
    have g1 : decide ((n : Int) ≤ 255) = true := by simp; omega
    clear hm e1
    generalize hexS 8 n = s at *
    have hmin : min (s.length : Int) 2 = (s.length : Int) := by omega
    go_enter Tryz.func111, Tryz.ntmps111
    go_wp2_with fail
    refine (hB _ hT).mono ?_
    rintro e w1 ⟨rfl, hb⟩
    go_wp2_with fail
    go_ret
    exact ⟨ret_str (by rw [HE.out]; simp; exact List.take_of_length_le (by simp)), hb⟩
  by_cases h2 : n ≤ 65535
  · obtain ⟨e1, e2, e3⟩ := hexS_pad 4 8 n (by omega) (by decide) (by decide)
    have HE : Hid (codedM n = [92, 117] ++ (List.drop (hexS 8 n).length [48, 48, 48, 48] ++ hexS 8 n)) := Lib.hid (by
      rw [hm, if_neg h1, if_pos h2, ← e1, show ([48, 48, 48, 48] : List UInt8) = List.replicate 4 48 from rfl, zeros_at])
    have g1 : decide ((n : Int) ≤ 255) = false := by simp; omega
    have g2 : decide ((n : Int) ≤ 65535) = true := by simp; omega
    clear hm e1
    generalize hexS 8 n = s at *
    go_enter Tryz.func111, Tryz.ntmps111
    go_wp2_with fail
    refine (hB _ hT).mono ?_
    rintro e w1 ⟨rfl, hb⟩
    go_wp2_with fail
    go_ret
    exact ⟨ret_str (by rw [HE.out]; simp; exact List.take_of_length_le (by simp)), hb⟩
  · obtain ⟨e1, e2, e3⟩ := hexS_pad 8 8 n (by omega) (by decide) (by decide)
    have HE : Hid (codedM n = [92, 85] ++ (List.drop (hexS 8 n).length [48, 48, 48, 48, 48, 48, 48, 48] ++ hexS 8 n)) := Lib.hid (by
      rw [hm, if_neg h1, if_neg h2, ← e1, show ([48, 48, 48, 48, 48, 48, 48, 48] : List UInt8) = List.replicate 8 48 from rfl, zeros_at])
    have g1 : decide ((n : Int) ≤ 255) = false := by simp; omega
    have g2 : decide ((n : Int) ≤ 65535) = false := by simp; omega
    clear hm e1
    generalize hexS 8 n = s at *
    go_enter Tryz.func111, Tryz.ntmps111
    go_wp2_with fail
    refine (hB _ hT).mono ?_
    rintro e w1 ⟨rfl, hb⟩
    go_wp2_with fail
    go_ret
    exact ⟨ret_str (by rw [HE.out]; simp; exact List.take_of_length_le (by simp)), hb⟩
end Go.Proofs.YtjfgcbikdibjeaaGreatDoor
