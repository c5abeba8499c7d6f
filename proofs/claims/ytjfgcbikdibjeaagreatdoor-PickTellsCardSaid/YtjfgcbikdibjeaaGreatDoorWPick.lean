/- The walks of package pick: what may stand plain, what may stand in rows. -/
import Derived.Test.YtjfgcbikdibjeaaGreatDoorWPlai2
import Derived.Test.YtjfgcbikdibjeaaGreatDoorPAllA
import Derived.Test.YtjfgcbikdibjeaaGreatDoorWPlace
import Derived.Test.YtjfgcbikdibjeaaGreatDoorWPrintable
import Derived.Test.YtjfgcbikdibjeaaGreatDoorWCore
namespace Go.Proofs.YtjfgcbikdibjeaaGreatDoor
open Go.RowKit U Go.Proofs

def prFrom (l : List UInt8) (pos : Nat) : Bool := (units pos (l.drop pos)).all fun u => printable (u.2.1 : Int)
theorem prFrom_zero (l : List UInt8) : prFrom l 0 = (runes l).all printable := by
  unfold prFrom runes
  rw [List.drop_zero, List.all_map]
  rfl
set_option maxRecDepth 100000 in
set_option maxHeartbeats 2000000 in
theorem told_c (l : List UInt8) (w : World) (hE : Env w) (hs : l.length ≤ 1073741824) :
    Calls Tryz.prog 42 #[.string ⟨l.toArray⟩] w fun e w' => e = .returned (.bool (toldP l)) ∧ Below w.heap.size w w' := by
  have hA := At.refl hE
  obtain ⟨S, hS⟩ : ∃ S, toldP l = S := ⟨_, rfl⟩
  rw [hS]
  have hS2 : S = (prFrom l 0 && decide (place l < 0)) := by rw [prFrom_zero]; exact hS.symm
  have HS := Lib.hid hS2
  have hP := fun w hE => place_c l w hE hs
  clear hS hS2
  generalize place l = pl at *
  go_enter Tryz.func42, Tryz.ntmps42
  go_wp2_with fail
  generalize hK : w.heap.size = k at *
  have HK := Lib.hid hK
  go_loopw [] (fun wr => ∃ pos : Nat, pos ≤ l.length ∧ wr.heap[k]? = some (.stringIter ⟨l.toArray⟩ pos) ∧ At w wr ∧ Hid (S = (prFrom l pos && decide (pl < 0)))) (fun wr => l.length - wr.iterPos k)
  case atStart =>
    refine ⟨0, Nat.zero_le _, ?_, hA.alloc _, HS⟩
    subst hK
    exact World.iter_heap w _ 0
  case round =>
    obtain ⟨pos, hp, hit, hA, HR⟩ := hrel
    by_cases hlt : pos < l.length
    · obtain ⟨r, n, HD, HU, hn1, hn2, hr, hnx, hit2, hbw2, hsz, hsz2⟩ := range_at Tryz.prog hit hlt hA.below (Nat.le_of_eq HK.out)
      have hA2 : At w (wr.iterAt k ⟨l.toArray⟩ (pos + n)) := ⟨hA.start, hbw2⟩
      obtain ⟨W, hWW⟩ : ∃ W, W = wr.iterAt k ⟨l.toArray⟩ (pos + n) := ⟨_, rfl⟩
      rw [← hWW] at hnx hit2 hA2
      have hip : wr.iterPos k = pos := iterPos_of hit
      have hip2 : W.iterPos k = pos + n := iterPos_of hit2
      have HIP := Lib.hid hip
      have HIP2 := Lib.hid hip2
      have HSt : Hid (prFrom l pos = (printable (r : Int) && prFrom l (pos + n))) := Lib.hid (by
        unfold prFrom
        rw [HU.out, List.all_cons])
      clear hWW hbw2 hsz hsz2 hit hip hip2
      have hit := hit2
      have hPr := fun w => printable_c (r : Int) w
      cases hb : printable (r : Int) with
      | true =>
        rw [hb] at hPr
        have HR2 : Hid (S = (prFrom l (pos + n) && decide (pl < 0))) := Lib.hid (by rw [HR.out, HSt.out, hb, Bool.true_and])
        clear hb HR HSt
        go_wp2_with fail
        refine (hPr _).mono ?_
        rintro e w2 ⟨rfl, rfl⟩
        go_wp2_with fail
        refine ⟨⟨pos + n, by omega, hit, hA2, HR2⟩, ?_⟩
        rw [HIP.out, HIP2.out]; omega
      | false =>
        rw [hb] at hPr
        have HE : Hid (S = false) := Lib.hid (by rw [HR.out, HSt.out, hb]; rfl)
        clear hb HR HSt
        go_wp2_with fail
        refine (hPr _).mono ?_
        rintro e w2 ⟨rfl, rfl⟩
        go_wp2_with fail
        go_ret
        exact ⟨ret_bool (by rw [HE.out]), hA2.below⟩
    · have hnx := range_end Tryz.prog hit hlt
      have HE : Hid (S = decide (pl < 0)) := Lib.hid (by
        rw [HR.out]
        unfold prFrom
        rw [units_end hlt]
        simp)
      have hPp := hP _ hA.env
      go_wp2_with fail
      refine hPp.mono ?_
      rintro e w2 ⟨rfl, hb⟩
      have hA := hA.step hb
      clear hb
      go_wp2_with fail
      go_ret
      exact ⟨ret_bool (by rw [HE.out]), hA.below⟩
theorem pre3_is (l : List UInt8) (c : UInt8) : Lib.hasPrefix l [c, c, c] = preN l c.toNat := pre3 l c
set_option maxRecDepth 100000 in
set_option maxHeartbeats 4000000 in
theorem pplain_c (l : List UInt8) (flow : Bool) (w : World) (hE : Env w) (hs : l.length ≤ 1000000) :
    Calls Tryz.prog 14 #[.string ⟨l.toArray⟩, .bool flow] w fun e w' => e = .returned (.bool (plainM l flow)) ∧ Below w.heap.size w w' := by
  obtain ⟨S, hS⟩ : ∃ S, S = plainM l flow := ⟨_, rfl⟩
  rw [← hS]
  unfold plainM at hS
  have hA := At.refl hE
  have hB := fun w => begins_c l 0 flow w (by omega) (Nat.zero_le _)
  have hP := fun w => part_c l 0 flow w (by omega) (Nat.zero_le _)
  have hC9 := fun w (h : World.ShapedOpen Tryz.prog w) => Tryz.strings_Contains_shaped ⟨l.toArray⟩ ⟨#[9]⟩ w h (by rw [size_mk]; omega)
  have hC10 := fun w (h : World.ShapedOpen Tryz.prog w) => Tryz.strings_Contains_shaped ⟨l.toArray⟩ ⟨#[10]⟩ w h (by rw [size_mk]; omega)
  have hC9 : ∀ w, World.ShapedOpen Tryz.prog w → Calls Tryz.prog 41 #[.string ⟨l.toArray⟩, .string ⟨#[9]⟩] w fun e w' => e = .returned (.bool (l.any fun b => b == 9)) ∧ w' = w := fun w h => (hC9 w h).mono (by
    rintro e w' ⟨rfl, rfl⟩
    exact ⟨ret_bool (contains_byte 9 l), rfl⟩)
  have hC10 : ∀ w, World.ShapedOpen Tryz.prog w → Calls Tryz.prog 41 #[.string ⟨l.toArray⟩, .string ⟨#[10]⟩] w fun e w' => e = .returned (.bool (l.any fun b => b == 10)) ∧ w' = w := fun w h => (hC10 w h).mono (by
    rintro e w' ⟨rfl, rfl⟩
    exact ⟨ret_bool (contains_byte 10 l), rfl⟩)
  have hT := fun w hE => told_c l w hE (by omega)
  have h45 := fun w => Tryz.strings_HasPrefix ⟨l.toArray⟩ ⟨#[45, 45, 45]⟩ w
  have h46 := fun w => Tryz.strings_HasPrefix ⟨l.toArray⟩ ⟨#[46, 46, 46]⟩ w
  have h45 : ∀ w, Calls Tryz.prog 43 #[.string ⟨l.toArray⟩, .string ⟨#[45, 45, 45]⟩] w fun e w' => e = .returned (.bool (preN l 45)) ∧ w' = w := fun w => (h45 w).mono (by
    rintro e w' ⟨rfl, rfl⟩
    exact ⟨ret_bool (pre3_is l 45), rfl⟩)
  have h46 : ∀ w, Calls Tryz.prog 43 #[.string ⟨l.toArray⟩, .string ⟨#[46, 46, 46]⟩] w fun e w' => e = .returned (.bool (preN l 46)) ∧ w' = w := fun w => (h46 w).mono (by
    rintro e w' ⟨rfl, rfl⟩
    exact ⟨ret_bool (pre3_is l 46), rfl⟩)
  have hany : (l.all fun b => decide (b ≠ 9 ∧ b ≠ 10)) = (!(l.any fun b => b == 9) && !(l.any fun b => b == 10)) := by
    rw [Bool.eq_iff_iff, List.all_eq_true, Bool.and_eq_true, Bool.not_eq_true', Bool.not_eq_true', List.any_eq_false, List.any_eq_false]
    constructor
    · intro h
      exact ⟨fun b hb => by have := of_decide_eq_true (h b hb); simpa using this.1, fun b hb => by have := of_decide_eq_true (h b hb); simpa using this.2⟩
    · rintro ⟨h1, h2⟩ b hb
      exact decide_eq_true ⟨by simpa using h1 b hb, by simpa using h2 b hb⟩
  rw [hany] at hS
  clear hany
  generalize (l.any fun b => b == 9) = b9 at *
  generalize (l.any fun b => b == 10) = b10 at *
  generalize toldP l = td at *
  generalize preN l 45 = p45 at *
  generalize preN l 46 = p46 at *
  generalize beginsM l 0 flow = bg at *
  generalize partM l 0 flow = pm at *
  have HS := Lib.hid hS
  clear hS
  cases bg with
  | false =>
    have HS2 : Hid (S = false) := Lib.hid HS.out
    clear HS
    go_enter Tryz.func14, Tryz.ntmps14
    go_wp2_with fail
    refine (hB _).mono ?_
    rintro e w1 ⟨rfl, rfl⟩
    go_wp2_with fail
    go_ret
    exact ⟨ret_bool HS2.out.symm, hA.below⟩
  | true =>
    by_cases hpl : pm = l.length
    · have HS2 : Hid (S = (!b9 && !b10 && td && !p45 && !p46)) := Lib.hid (by rw [HS.out, decide_eq_true hpl, Bool.true_and, Bool.true_and])
      have gp : ((pm : Int) != (l.length : Int)) = false := by rw [hpl]; simp
      clear HS hpl
      cases b9 with
      | true =>
        have HS3 : Hid (S = false) := Lib.hid HS2.out
        clear HS2
        go_enter Tryz.func14, Tryz.ntmps14
        go_wp2_with fail
        refine (hB _).mono ?_
        rintro e w1 ⟨rfl, rfl⟩
        go_wp2_with fail
        refine (hP _).mono ?_
        rintro e w1 ⟨rfl, hb1⟩
        have hA := hA.step hb1
        go_wp2_with fail
        refine (hC9 _ hA.env.shaped).mono ?_
        rintro e w2 ⟨rfl, rfl⟩
        go_wp2_with fail
        go_ret
        exact ⟨ret_bool HS3.out.symm, hA.below⟩
      | false =>
        cases b10 with
        | true =>
          have HS3 : Hid (S = false) := Lib.hid HS2.out
          clear HS2
          go_enter Tryz.func14, Tryz.ntmps14
          go_wp2_with fail
          refine (hB _).mono ?_
          rintro e w1 ⟨rfl, rfl⟩
          go_wp2_with fail
          refine (hP _).mono ?_
          rintro e w1 ⟨rfl, hb1⟩
          have hA := hA.step hb1
          go_wp2_with fail
          refine (hC9 _ hA.env.shaped).mono ?_
          rintro e w2 ⟨rfl, rfl⟩
          go_wp2_with fail
          refine (hC10 _ hA.env.shaped).mono ?_
          rintro e w2 ⟨rfl, rfl⟩
          go_wp2_with fail
          go_ret
          exact ⟨ret_bool HS3.out.symm, hA.below⟩
        | false =>
          cases td with
          | false =>
            have HS3 : Hid (S = false) := Lib.hid HS2.out
            clear HS2
            go_enter Tryz.func14, Tryz.ntmps14
            go_wp2_with fail
            refine (hB _).mono ?_
            rintro e w1 ⟨rfl, rfl⟩
            go_wp2_with fail
            refine (hP _).mono ?_
            rintro e w1 ⟨rfl, hb1⟩
            have hA := hA.step hb1
            go_wp2_with fail
            refine (hC9 _ hA.env.shaped).mono ?_
            rintro e w2 ⟨rfl, rfl⟩
            go_wp2_with fail
            refine (hC10 _ hA.env.shaped).mono ?_
            rintro e w2 ⟨rfl, rfl⟩
            go_wp2_with fail
            refine (hT _ hA.env).mono ?_
            rintro e w2 ⟨rfl, hb2⟩
            have hA := hA.step hb2
            go_wp2_with fail
            go_ret
            exact ⟨ret_bool HS3.out.symm, hA.below⟩
          | true =>
            cases p45 with
            | true =>
              have HS3 : Hid (S = false) := Lib.hid HS2.out
              clear HS2
              go_enter Tryz.func14, Tryz.ntmps14
              go_wp2_with fail
              refine (hB _).mono ?_
              rintro e w1 ⟨rfl, rfl⟩
              go_wp2_with fail
              refine (hP _).mono ?_
              rintro e w1 ⟨rfl, hb1⟩
              have hA := hA.step hb1
              go_wp2_with fail
              refine (hC9 _ hA.env.shaped).mono ?_
              rintro e w2 ⟨rfl, rfl⟩
              go_wp2_with fail
              refine (hC10 _ hA.env.shaped).mono ?_
              rintro e w2 ⟨rfl, rfl⟩
              go_wp2_with fail
              refine (hT _ hA.env).mono ?_
              rintro e w2 ⟨rfl, hb2⟩
              have hA := hA.step hb2
              go_wp2_with fail
              refine (h45 _).mono ?_
              rintro e w3 ⟨rfl, rfl⟩
              go_wp2_with fail
              go_ret
              exact ⟨ret_bool HS3.out.symm, hA.below⟩
            | false =>
              have HS3 : Hid (S = !p46) := Lib.hid HS2.out
              clear HS2
              go_enter Tryz.func14, Tryz.ntmps14
              go_wp2_with fail
              refine (hB _).mono ?_
              rintro e w1 ⟨rfl, rfl⟩
              go_wp2_with fail
              refine (hP _).mono ?_
              rintro e w1 ⟨rfl, hb1⟩
              have hA := hA.step hb1
              go_wp2_with fail
              refine (hC9 _ hA.env.shaped).mono ?_
              rintro e w2 ⟨rfl, rfl⟩
              go_wp2_with fail
              refine (hC10 _ hA.env.shaped).mono ?_
              rintro e w2 ⟨rfl, rfl⟩
              go_wp2_with fail
              refine (hT _ hA.env).mono ?_
              rintro e w2 ⟨rfl, hb2⟩
              have hA := hA.step hb2
              go_wp2_with fail
              refine (h45 _).mono ?_
              rintro e w3 ⟨rfl, rfl⟩
              go_wp2_with fail
              refine (h46 _).mono ?_
              rintro e w3 ⟨rfl, rfl⟩
              go_wp2_with fail
              go_ret
              exact ⟨ret_bool HS3.out.symm, hA.below⟩
    · have HS2 : Hid (S = false) := Lib.hid (by rw [HS.out, decide_eq_false hpl]; rfl)
      have gp : ((pm : Int) != (l.length : Int)) = true := by simp; omega
      clear HS hpl
      go_enter Tryz.func14, Tryz.ntmps14
      go_wp2_with fail
      refine (hB _).mono ?_
      rintro e w1 ⟨rfl, rfl⟩
      go_wp2_with fail
      refine (hP _).mono ?_
      rintro e w1 ⟨rfl, hb1⟩
      have hA := hA.step hb1
      go_wp2_with fail
      go_ret
      exact ⟨ret_bool HS2.out.symm, hA.below⟩
end Go.Proofs.YtjfgcbikdibjeaaGreatDoor
