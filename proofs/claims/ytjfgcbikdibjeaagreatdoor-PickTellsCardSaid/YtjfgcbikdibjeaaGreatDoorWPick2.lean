/- The walk of package pick's Literal. -/
import Derived.Test.YtjfgcbikdibjeaaGreatDoorWPick
import Derived.Test.YtjfgcbikdibjeaaGreatDoorLits
namespace Go.Proofs.YtjfgcbikdibjeaaGreatDoor
open Go.RowKit U Go.Proofs

theorem strs_of (L : List ByteArray) : L.map Value.string = strs (L.map fun x => x.data.toList) := by
  unfold strs
  rw [List.map_map]
  apply List.map_congr_left
  intro x _
  show Value.string x = Value.string ⟨x.data.toList.toArray⟩
  simp
theorem split_c (m : List UInt8) (w : World) (hE : Env w) (hs : m.length ≤ 1073741824) :
    Calls Tryz.prog 48 #[.string ⟨m.toArray⟩, .string ⟨#[10]⟩] w fun e w' => e = .returned (.slice (some ⟨w.heap.size, 0, none⟩) (splitB [] m).length (splitB [] m).length) ∧ w' = w.alloc (.cells (strs (splitB [] m)).toArray 9) := by
  have h := Tryz.strings_Split_shaped ⟨m.toArray⟩ ⟨#[10]⟩ w hE.shaped (by rw [size_mk]; omega) (by decide)
  have hd := Lib.splitB_data ⟨#[10]⟩ 0 (Lib.countB ⟨m.toArray⟩ ⟨#[10]⟩) ⟨m.toArray⟩
  have hl := Lib.splitB_all ⟨#[10]⟩ (by decide) 0 (Lib.countB ⟨m.toArray⟩ ⟨#[10]⟩) ⟨m.toArray⟩ rfl
  have hd2 : (Lib.splitB ⟨#[10]⟩ 0 (Lib.countB ⟨m.toArray⟩ ⟨#[10]⟩) ⟨m.toArray⟩).map (·.data.toList) = splitB [] m := hd.trans (split_is m)
  refine h.mono ?_
  rintro e w' ⟨rfl, rfl⟩
  have hlen : (splitB [] m).length = Lib.countB ⟨m.toArray⟩ ⟨#[10]⟩ + 1 := by rw [← hd2, List.length_map, hl]
  rw [strs_of, hd2, hlen]
  exact ⟨rfl, rfl⟩
theorem first3 : ∀ b, b < 256 → (0 ≤ Lib.indexByte [32, 9, 10] b.toUInt8 ↔ (b = 32 ∨ b = 9 ∨ b = 10)) := by decide +kernel
theorem white_contains : (fun b : UInt8 => ([32, 9] : List UInt8).contains b) = wh := byte_all (by decide +kernel)
theorem trimW_c (r : List UInt8) (w : World) (hs : r.length ≤ 1073741824) :
    Calls Tryz.prog 50 #[.string ⟨r.toArray⟩, .string ⟨#[32, 9]⟩] w fun e w' => ∃ x : List UInt8, e = .returned (.string ⟨x.toArray⟩) ∧ (x = [] ↔ r.all wh = true) ∧ Below w.heap.size w w' := by
  have hT := Any.strings_Trim_laid Tryz.lays160 (by kernel_rfl) ⟨r.toArray⟩ ⟨([32, 9] : List UInt8).toArray⟩ w (by rw [size_mk]; omega) (by decide) (ascii_of_all (by decide))
  refine Calls.mono (show Calls Tryz.prog 50 _ _ _ from hT) ?_
  rintro e w' ⟨rfl, hb⟩
  refine ⟨_, rfl, ?_, hb⟩
  have := trimS_nil r [32, 9]
  rw [white_contains] at this
  show Lib.trimS r [32, 9] = [] ↔ _
  rw [← beq_iff_eq, this]
set_option maxRecDepth 100000 in
set_option maxHeartbeats 4000000 in
theorem literal_c (l : List UInt8) (w : World) (hE : Env w) (hs : l.length ≤ 1000000) :
    Calls Tryz.prog 16 #[.string ⟨l.toArray⟩] w fun e w' => e = .returned (.bool (literalM l)) ∧ Below w.heap.size w w' := by
  obtain ⟨S, hS⟩ : ∃ S, S = literalM l := ⟨_, rfl⟩
  rw [← hS]
  have hA := At.refl hE
  by_cases h0 : l = []
  · subst h0
    have HS : Hid (S = false) := Lib.hid hS
    clear hS
    go_enter Tryz.func16, Tryz.ntmps16
    go_wp2_with fail
    go_ret
    exact ⟨ret_bool HS.out.symm, hA.below⟩
  have hp : 0 < l.length := List.length_pos_iff.2 h0
  have he : l.isEmpty = false := by cases l with | nil => exact absurd rfl h0 | cons _ _ => rfl
  have hne : (l == []) = false := by cases l with | nil => exact absurd rfl h0 | cons _ _ => rfl
  unfold literalM at hS
  rw [he] at hS
  have hX := fun w => Tryz.strings_IndexByte ⟨#[32, 9, 10]⟩ (byt l 0 : Int) w
  have hb0 := byt_lt l 0
  have hx3 := first3 (byt l 0) hb0
  obtain ⟨x, hx⟩ : ∃ x, Lib.indexByte [32, 9, 10] (byt l 0).toUInt8 = x := ⟨_, rfl⟩
  have hX : ∀ w, Calls Tryz.prog 47 #[.string ⟨#[32, 9, 10]⟩, .int .u8 (byt l 0 : Int)] w fun e w' => e = .returned (.int .i64 x) ∧ w = w' := fun w => (hX w).mono (by
    rintro e w' ⟨rfl, rfl⟩
    refine ⟨ret_int ?_, rfl⟩
    rw [← hx]
    rfl)
  rw [hx] at hx3
  clear hx h0
  by_cases h3 : byt l 0 = 32 ∨ byt l 0 = 9 ∨ byt l 0 = 10
  · have hx0 := hx3.2 h3
    have HS : Hid (S = false) := Lib.hid (by
      rw [hS]
      rcases h3 with h | h | h <;> (rw [h]; simp [whN]))
    clear hS hx3 h3
    go_enter Tryz.func16, Tryz.ntmps16
    go_wp2_with fail
    refine (hX _).mono ?_
    rintro e w1 ⟨rfl, rfl⟩
    go_wp2_with fail
    go_ret
    exact ⟨ret_bool HS.out.symm, hA.below⟩
  have hx0 : x < 0 := by
    rcases Int.lt_or_le x 0 with h | h
    · exact h
    · exact absurd (hx3.1 h) h3
  have hS : S = (toldP l && (rowsL l).all (fun r => !blankR r) && !((rowsL l).getLast?.getD []).isEmpty) := by
    rw [hS, show whN (byt l 0) = false from decide_eq_false (by omega), decide_eq_true (show byt l 0 ≠ 10 by omega)]
    rfl
  clear hx3 h3
  have hT := fun w hE => told_c l w hE (by omega)
  cases htd : toldP l with
  | false =>
    rw [htd] at hT hS
    have HS : Hid (S = false) := Lib.hid hS
    clear hS htd
    go_enter Tryz.func16, Tryz.ntmps16
    go_wp2_with fail
    refine (hX _).mono ?_
    rintro e w1 ⟨rfl, rfl⟩
    go_wp2_with fail
    refine (hT _ hA.env).mono ?_
    rintro e w1 ⟨rfl, hb1⟩
    have hA := hA.step hb1
    go_wp2_with fail
    go_ret
    exact ⟨ret_bool HS.out.symm, hA.below⟩
  | true =>
    rw [htd] at hT hS
    have hTS := fun w => Tryz.strings_TrimSuffix ⟨l.toArray⟩ ⟨#[10]⟩ w (by rw [size_mk]; omega)
    have hTS : ∀ w, Calls Tryz.prog 49 #[.string ⟨l.toArray⟩, .string ⟨#[10]⟩] w fun e w' => e = .returned (.string ⟨(trimLF l).toArray⟩) ∧ w = w' := fun w => (hTS w).mono (by
      rintro e w' ⟨rfl, rfl⟩
      exact ⟨ret_str (trim_is l), rfl⟩)
    have htl := trimLF_len l
    have hSp := fun w hE => split_c (trimLF l) w hE (by omega)
    have hrl := splitB_len (trimLF l) []
    have hrn := splitB_ne (trimLF l) []
    have hS : S = ((splitB [] (trimLF l)).all (fun r => !blankR r) && !((splitB [] (trimLF l)).getLast?.getD []).isEmpty) := hS
    generalize trimLF l = m at *
    generalize splitB [] m = rs at *
    have HS := Lib.hid hS
    have HRL : Hid (∀ x ∈ rs, x.length ≤ 1000000) := Lib.hid (fun x hx => by have := hrl.2 x hx; simp at this; omega)
    have hrs : rs.length ≤ 1000001 := by have := hrl.1; omega
    have hr0 : 0 < rs.length := List.length_pos_iff.2 hrn
    clear hS htd hrl hrn
    go_enter Tryz.func16, Tryz.ntmps16
    go_wp2_with fail
    refine (hX _).mono ?_
    rintro e w1 ⟨rfl, rfl⟩
    go_wp2_with fail
    refine (hT _ hA.env).mono ?_
    rintro e w1 ⟨rfl, hb1⟩
    have hA := hA.step hb1
    go_wp2_with fail
    refine (hTS _).mono ?_
    rintro e w2 ⟨rfl, rfl⟩
    go_wp2_with fail
    refine (hSp _ hA.env).mono ?_
    rintro e w2 ⟨rfl, hw2⟩
    have hcell : ∀ (i : Nat) (hi : i < rs.length), w2.cell? ⟨w1.heap.size, i, none⟩ = some (.string ⟨(rs[i]'hi).toArray⟩) := by
      intro i hi
      rw [hw2]
      have := lit_cell w1 9 (strs rs) i _ (lit_at (xs := rs) hi)
      rw [this]
      simp [hi]
    have hA2 : At w w2 := by rw [hw2]; exact hA.alloc _
    have hbz : w1.heap.size < w2.heap.size := by rw [hw2]; simp
    have HC := Lib.hid hcell
    clear hw2 hcell hA hb1
    generalize w1.heap.size = g at *
    go_wp2_with fail
    go_loopw [24] (fun s24 wr => ∃ k : Nat, k ≤ rs.length ∧ s24 = .int .i64 k ∧ At w wr ∧ Below w2.heap.size w2 wr ∧ Hid (∀ j (hj : j < rs.length), j < k → blankR (rs[j]'hj) = false)) (fun s24 _ => rs.length - (intOf s24).toNat)
    case atStart => exact ⟨0, Nat.zero_le _, rfl, hA2, Below.refl _ _, Lib.hid (fun j _ h => by omega)⟩
    case round =>
      obtain ⟨k, hk, rfl, hA, hB, HK⟩ := hrel
      by_cases hlt : k < rs.length
      · have hck := (hB.cell (p := ⟨g, k, none⟩) hbz).trans (HC.out k hlt)
        have hrx := HRL.out _ (List.getElem_mem hlt)
        obtain ⟨r, hr⟩ : ∃ r, rs[k]'hlt = r := ⟨_, rfl⟩
        rw [hr] at hck hrx
        have HR := Lib.hid hr
        have hTr := fun w => trimW_c r w (by omega)
        clear hr
        by_cases hr0' : r = []
        · have HK2 : Hid (∀ j (hj : j < rs.length), j < k + 1 → blankR (rs[j]'hj) = false) := Lib.hid (fun j hj h => by
            by_cases hjk : j = k
            · subst hjk; rw [HR.out, hr0']; rfl
            · exact HK.out j hj (by omega))
          subst hr0'
          clear HK HR
          go_wp2_with fail
          go_round
          case rel => exact ⟨k + 1, by omega, by go_num, hA, hB, HK2⟩
          case measure => simp [intOf]; omega
        · have gr : (r == []) = false := by cases r with | nil => exact absurd rfl hr0' | cons _ _ => rfl
          have gr2 : (r != []) = true := by cases r with | nil => exact absurd rfl hr0' | cons _ _ => rfl
          have gri : r.isEmpty = false := by cases r with | nil => exact absurd rfl hr0' | cons _ _ => rfl
          cases hall : r.all wh with
          | true =>
            have HF : Hid (S = false) := Lib.hid (by
              have hm : rs.all (fun r => !blankR r) = false := by
                rw [Bool.eq_false_iff]
                intro h
                have := List.all_eq_true.1 h r (by rw [← HR.out]; exact List.getElem_mem hlt)
                unfold blankR at this
                rw [gri, hall] at this
                cases this
              rw [HS.out, hm]; rfl)
            clear HK HR
            go_wp2_with fail
            refine (hTr _).mono ?_
            rintro e w3 ⟨x2, rfl, hx2, hb3⟩
            obtain rfl := hx2.2 hall
            have hA := hA.step hb3
            clear hx2 hall
            go_wp2_with fail
            go_ret
            exact ⟨ret_bool HF.out.symm, hA.below⟩
          | false =>
            have HK2 : Hid (∀ j (hj : j < rs.length), j < k + 1 → blankR (rs[j]'hj) = false) := Lib.hid (fun j hj h => by
              by_cases hjk : j = k
              · subst hjk; rw [HR.out]; unfold blankR; rw [gri, hall]; rfl
              · exact HK.out j hj (by omega))
            clear HK HR
            go_wp2_with fail
            refine (hTr _).mono ?_
            rintro e w3 ⟨x2, rfl, hx2, hb3⟩
            have hx2n : x2 ≠ [] := fun h => by have := hx2.1 h; rw [hall] at this; cases this
            have gx : (x2 == []) = false := by cases x2 with | nil => exact absurd rfl hx2n | cons _ _ => rfl
            have gx2 : x2.isEmpty = false := by cases x2 with | nil => exact absurd rfl hx2n | cons _ _ => rfl
            have hA := hA.step hb3
            have hB := hB.trans (hb3.mono hB.size)
            clear hx2 hx2n hall
            go_wp2_with fail
            go_round
            case rel => exact ⟨k + 1, by omega, by go_num, hA, hB, HK2⟩
            case measure => simp [intOf]; omega
      · obtain rfl : k = rs.length := by omega
        obtain ⟨j, hj⟩ : ∃ j, rs.length = j + 1 := ⟨rs.length - 1, by omega⟩
        have hck := (hB.cell (p := ⟨g, j, none⟩) hbz).trans (HC.out j (by omega))
        obtain ⟨r, hr⟩ : ∃ r, rs[j]'(by omega) = r := ⟨_, rfl⟩
        rw [hr] at hck
        have HF : Hid (S = !r.isEmpty) := Lib.hid (by
          have hm : rs.all (fun r => !blankR r) = true := List.all_eq_true.2 fun x hx => by
            obtain ⟨i, hi, rfl⟩ := List.mem_iff_getElem.1 hx
            rw [HK.out i hi hi]; rfl
          have hg : rs.getLast?.getD [] = r := by
            rw [List.getLast?_eq_getElem?, hj, Nat.add_sub_cancel, List.getElem?_eq_getElem (by omega), hr]
            rfl
          rw [HS.out, hm, hg]; rfl)
        have hjw : IntKind.i64.wrap ((rs.length : Int) - 1) = (j : Int) := by rw [IntWalk.i64_in _ (by omega)]; omega
        clear HK HS hr hX hT hTS hSp
        cases r with
        | nil =>
          go_wp2_with fail
          go_ret
          exact ⟨ret_bool (by rw [HF.out]; rfl), hA.below⟩
        | cons a t =>
          go_wp2_with fail
          go_ret
          exact ⟨ret_bool (by rw [HF.out]; rfl), hA.below⟩
end Go.Proofs.YtjfgcbikdibjeaaGreatDoor
