/- The walks of package bloc: rows. -/
import Derived.Test.YtjfgcbikdibjeaaGreatDoorPAllB
import Derived.Test.YtjfgcbikdibjeaaGreatDoorWRows2
import Derived.Deep.DeepCutAuto
namespace Go.Proofs.YtjfgcbikdibjeaaGreatDoor
open Go.RowKit U Go.Proofs

attribute [local go_sem] ite_min' ite_max'
def otherM (l : List UInt8) : Bool := !(l.all fun b => decide (b.toNat = 32))
theorem other_is (l : List UInt8) : (!((Lib.trimLeftB l 32) == [])) = otherM l := by
  unfold otherM Lib.trimLeftB
  congr 1
  induction l with
  | nil => rfl
  | cons b t ih =>
    rw [List.dropWhile_cons, List.all_cons]
    by_cases hb : b = 32
    · subst hb
      rw [if_pos (by decide), ih]
      rfl
    · have e : decide (b.toNat = 32) = false := decide_eq_false (fun e => hb (UInt8.toNat_inj.1 e))
      rw [if_neg (by simpa using hb), e]
      rfl
set_option maxRecDepth 100000 in
set_option maxHeartbeats 1000000 in
theorem other_c (l : List UInt8) (w : World) :
    Calls Tryz.prog 157 #[.string ⟨l.toArray⟩] w fun e w' => e = .returned (.bool (otherM l)) ∧ w = w' := by
  have hT := fun w => Tryz.strings_TrimLeft_one ⟨l.toArray⟩ 32 (by decide) w
  have ho := other_is l
  generalize otherM l = o at *
  rw [show (Lib.trimLeftB (⟨l.toArray⟩ : ByteArray).data.toList 32) = Lib.trimLeftB l 32 from rfl] at hT
  generalize Lib.trimLeftB l 32 = m at *
  have HO := Lib.hid ho
  clear ho
  go_enter Tryz.func157, Tryz.ntmps157
  go_wp2_with fail
  refine (hT _).mono ?_
  rintro e w1 ⟨rfl, rfl⟩
  go_wp2_with fail
  go_ret
  exact ⟨ret_bool (by rw [← HO.out]; cases m <;> rfl), rfl⟩
theorem other_row (l : List UInt8) (p : Nat) : otherM (rowM l p) = !blankB l p := rfl
set_option maxRecDepth 100000 in
set_option maxHeartbeats 1000000 in
theorem blrow_c (l : List UInt8) (p : Nat) (w : World) (hs : l.length ≤ 1073741824) (hp : p ≤ l.length) :
    Calls Tryz.prog 156 #[.string ⟨l.toArray⟩, .int .i64 p] w fun e w' => e = .returned (.string ⟨(rowM l p).toArray⟩) ∧ w = w' := by
  have hR := fun w => row_n l p w hs hp
  have h1 := from_le_to l p
  have h2 := rowTo_le hp
  have hm : rowM l p = (l.drop (rowFrom l p)).take (rowTo l p - rowFrom l p) := rfl
  rw [hm]
  generalize rowFrom l p = f at *
  generalize rowTo l p = t at *
  clear hm
  have hft : (f : Int) ≤ t := by omega
  go_enter Tryz.func156, Tryz.ntmps156
  go_wp2_with fail
  refine (hR _).mono ?_
  rintro e w1 ⟨rfl, rfl⟩
  go_wp2_with fail
  go_ret
  exact ⟨ret_str (by simp), rfl⟩
set_option maxRecDepth 100000 in
set_option maxHeartbeats 1000000 in
theorem blnext_c (l : List UInt8) (p : Nat) (w : World) (hs : l.length ≤ 1073741824) (hp : p ≤ l.length) :
    Calls Tryz.prog 155 #[.string ⟨l.toArray⟩, .int .i64 p] w fun e w' => e = .returned (.int .i64 (nextM l p)) ∧ w = w' := by
  have hR := fun w => row_n l p w hs hp
  have h2 := rowTo_le hp
  have hm : (nextM l p : Int) = min ((rowTo l p : Int) + 1) l.length := by unfold nextM; omega
  rw [hm]
  generalize rowFrom l p = f at *
  generalize rowTo l p = t at *
  clear hm
  go_enter Tryz.func155, Tryz.ntmps155
  go_wp2_with fail
  refine (hR _).mono ?_
  rintro e w1 ⟨rfl, rfl⟩
  go_wp2_with fail
  go_ret
  exact ⟨rfl, rfl⟩
set_option maxRecDepth 100000 in
set_option maxHeartbeats 1000000 in
theorem marks_c (l : List UInt8) (p : Nat) (w : World) (hs : l.length ≤ 1073741824) (hp : p ≤ l.length) :
    Calls Tryz.prog 154 #[.string ⟨l.toArray⟩, .int .i64 p] w fun e w' => e = .returned (.bool (markB l p)) ∧ w = w' := by
  have hK := fun w => kind_n l p w hs hp
  have hm : markB l p = (((kindM l p : Int) == 3) || ((kindM l p : Int) == 4)) := by
    unfold markB
    rw [Bool.eq_iff_iff]
    simp
    omega
  rw [hm]
  generalize kindM l p = k at *
  clear hm
  go_enter Tryz.func154, Tryz.ntmps154
  go_wp2_with fail
  refine (hK _).mono ?_
  rintro e w1 ⟨rfl, rfl⟩
  cases h3 : ((k : Int) == 3) with
  | true =>
    go_wp2_with fail
    go_ret
    exact ⟨ret_bool (by rw [h3]; rfl), rfl⟩
  | false =>
    go_wp2_with fail
    go_ret
    exact ⟨ret_bool (by rw [h3]; rfl), rfl⟩
set_option maxRecDepth 100000 in
set_option maxHeartbeats 2000000 in
theorem blfirst_c (l : List UInt8) (p : Nat) (w : World) (hs : l.length ≤ 1073741824) (hp : p ≤ l.length) :
    Calls Tryz.prog 153 #[.string ⟨l.toArray⟩, .int .i64 p] w fun e w' => e = .returned (.int .i64 (frontM l p)) ∧ w = w' := by
  go_enter Tryz.func153, Tryz.ntmps153
  go_wp2_with fail
  go_loop [1] (fun x => ∃ q : Nat, q ≤ l.length ∧ x = .int .i64 q ∧ Hid (frontM l q = frontM l p)) (fun x => l.length - (intOf x).toNat)
  case atStart => exact ⟨p, hp, rfl, Lib.hid rfl⟩
  case round =>
    obtain ⟨q, hq, rfl, HQ⟩ := hrel
    by_cases hlt : q < l.length
    · have hRo := fun w => blrow_c l q w hs hq
      have hO := fun w => other_c (rowM l q) w
      rw [other_row] at hO
      generalize rowM l q = rw' at *
      cases hb : blankB l q with
      | true =>
        rw [hb] at hO
        have hN := fun w => blnext_c l q w hs hq
        have hng := next_gt hlt
        have hnl := next_le l q
        have HR : Hid (frontM l (nextM l q) = frontM l p) := Lib.hid (by rw [← HQ.out, front_go hlt hb])
        generalize nextM l q = q2 at *
        clear hb HQ
        go_wp2_with fail
        refine (hRo _).mono ?_
        rintro e w1 ⟨rfl, rfl⟩
        go_wp2_with fail
        refine (hO _).mono ?_
        rintro e w1 ⟨rfl, rfl⟩
        go_wp2_with fail
        refine (hN _).mono ?_
        rintro e w1 ⟨rfl, rfl⟩
        go_wp2_with fail
        go_round
        case rel => exact ⟨q2, hnl, rfl, HR⟩
        case measure => simp [intOf]; omega
      | false =>
        rw [hb] at hO
        have HR : Hid (frontM l p = q) := Lib.hid (by rw [← HQ.out, front_stop (by rw [hb]; simp)])
        clear hb HQ
        go_wp2_with fail
        refine (hRo _).mono ?_
        rintro e w1 ⟨rfl, rfl⟩
        go_wp2_with fail
        refine (hO _).mono ?_
        rintro e w1 ⟨rfl, rfl⟩
        go_wp2_with fail
        go_ret
        exact ⟨ret_int (by rw [HR.out]), rfl⟩
    · have HR : Hid (frontM l p = q) := Lib.hid (by rw [← HQ.out, front_stop (fun x => hlt x.1)])
      go_wp2_with fail
      go_ret
      exact ⟨ret_int (by rw [HR.out]), rfl⟩
end Go.Proofs.YtjfgcbikdibjeaaGreatDoor
