/- What the statements on pick share: a scalar of a text. -/
import Derived.Test.YtjfgcbikdibjeaaGreatDoorLawPick0
import Derived.Test.YtjfgcbikdibjeaaGreatDoorWTag
namespace Go.Proofs.YtjfgcbikdibjeaaGreatDoor
open Go.RowKit U Go.Proofs

theorem Full.c12 {w : World} {g : Nat} {t : TypeId} {y0 y1 y2 y3 y4 y5 y6 y7 y8 y9 y10 y11 : Value} (h : Full w g t [y0, y1, y2, y3, y4, y5, y6, y7, y8, y9, y10, y11]) :
    w.cell? ⟨g, 0, none⟩ = some y0 ∧ w.cell? ⟨g, 1, none⟩ = some y1 ∧ w.cell? ⟨g, 2, none⟩ = some y2 ∧ w.cell? ⟨g, 3, none⟩ = some y3 ∧ w.cell? ⟨g, 4, none⟩ = some y4 ∧ w.cell? ⟨g, 5, none⟩ = some y5 ∧ w.cell? ⟨g, 6, none⟩ = some y6 ∧ w.cell? ⟨g, 7, none⟩ = some y7 ∧ w.cell? ⟨g, 8, none⟩ = some y8 ∧ w.cell? ⟨g, 9, none⟩ = some y9 ∧ w.cell? ⟨g, 10, none⟩ = some y10 ∧ w.cell? ⟨g, 11, none⟩ = some y11 :=
  ⟨h.cell 0, h.cell 1, h.cell 2, h.cell 3, h.cell 4, h.cell 5, h.cell 6, h.cell 7, h.cell 8, h.cell 9, h.cell 10, h.cell 11⟩
def styleOf (y : Int) : Nat := 1 + low y 5
theorem styleOf_le (y : Int) : 1 ≤ styleOf y ∧ styleOf y ≤ 5 := by have := low_lt y 5 (by omega); unfold styleOf; omega
def meansP (l : List UInt8) (st : Nat) : List UInt8 := if st = 1 then coreP l else wStr
set_option maxRecDepth 100000 in
set_option maxHeartbeats 4000000 in
theorem scalar23_c (l tg : List UInt8) (y : Int) (w : World) :
    Calls Tryz.prog 13 #[.string ⟨l.toArray⟩, .string ⟨tg.toArray⟩, .int .i64 y] w fun e w' =>
      e = .returned (.agg (scCells 1 (styleOf y) (-1) 0 tg l).toArray) ∧ Below w.heap.size w w' := by
  have hL := fun w => low_c y 5 w (by omega) (by omega)
  obtain ⟨X, hX⟩ : ∃ X : Int, (styleOf y : Int) = X := ⟨_, rfl⟩
  rw [hX]
  have HX : Hid ((1 : Int) + (low y 5 : Int) = X) := Lib.hid (by rw [← hX]; unfold styleOf; omega)
  have h5 := low_lt y 5 (by omega)
  clear hX
  generalize low y 5 = c at *
  have gw : IntKind.i64.wrap (1 + (c : Int)) = X := by rw [IntWalk.i64_in _ (by omega)]; exact HX.out
  unfold scCells
  go_enter Tryz.func13, Tryz.ntmps13
  go_wp2_with fail
  refine (hL _).mono ?_
  rintro e w1 ⟨rfl, rfl⟩
  go_wp2_with fail
  have hF : Full (w.alloc (.cells #[.int .i64 1, .int .i64 X, .int .i64 (-1), .int .i64 0, .string ⟨#[]⟩, .string ⟨tg.toArray⟩, .string ⟨l.toArray⟩, .slice none 0 0, .slice none 0 0, .slice none 0 0, .bool false, .string ⟨#[]⟩] 28)) w.heap.size 28 [.int .i64 1, .int .i64 X, .int .i64 (-1), .int .i64 0, .string ⟨#[]⟩, .string ⟨tg.toArray⟩, .string ⟨l.toArray⟩, .slice none 0 0, .slice none 0 0, .slice none 0 0, .bool false, .string ⟨#[]⟩] := Full.new w _ _
  have hB : Below w.heap.size w (w.alloc (.cells #[.int .i64 1, .int .i64 X, .int .i64 (-1), .int .i64 0, .string ⟨#[]⟩, .string ⟨tg.toArray⟩, .string ⟨l.toArray⟩, .slice none 0 0, .slice none 0 0, .slice none 0 0, .bool false, .string ⟨#[]⟩] 28)) := (Below.refl _ _).alloc (Nat.le_refl _) _
  generalize w.alloc (.cells #[.int .i64 1, .int .i64 X, .int .i64 (-1), .int .i64 0, .string ⟨#[]⟩, .string ⟨tg.toArray⟩, .string ⟨l.toArray⟩, .slice none 0 0, .slice none 0 0, .slice none 0 0, .bool false, .string ⟨#[]⟩] 28) = wf at *
  obtain ⟨r0, r1, r2, r3, r4, r5, r6, r7, r8, r9, r10, r11⟩ := hF.c12
  refine bodyPost_ret (v := .agg #[.int .i64 1, .int .i64 X, .int .i64 (-1), .int .i64 0, .string ⟨#[]⟩, .string ⟨tg.toArray⟩, .string ⟨l.toArray⟩, .slice none 0 0, .slice none 0 0, .slice none 0 0, .bool false, .string ⟨#[]⟩]) ?_ rfl ?_
  · simp [results, Tryz.results13, go_sem, r0, r1, r2, r3, r4, r5, r6, r7, r8, r9, r10, r11]
  · exact ⟨rfl, hB⟩
set_option maxRecDepth 100000 in
set_option maxHeartbeats 4000000 in
theorem means_c (l : List UInt8) (st : Nat) (w : World) (hs : l.length ≤ 1000000) (hst : st ≤ 100) :
    Calls Tryz.prog 27 #[.string ⟨l.toArray⟩, .int .i64 st] w fun e w' =>
      e = .returned (.string ⟨(longOf (meansP l st)).toArray⟩) ∧ Below w.heap.size w w' := by
  have hT := fun w => tag_c l w (by omega)
  have hLg := fun w => coreLong_c [115, 116, 114] w (by decide)
  by_cases h1 : st = 1
  · have hm : longOf (meansP l st) = longOf (coreP l) := by unfold meansP; rw [if_pos h1]
    rw [hm]
    subst h1
    generalize longOf (coreP l) = ct at *
    generalize longOf [115, 116, 114] = lg at *
    go_enter Tryz.func27, Tryz.ntmps27
    go_wp2_with fail
    refine (hT _).mono ?_
    rintro e w1 ⟨rfl, hb⟩
    go_wp2_with fail
    go_ret
    exact ⟨rfl, hb⟩
  · have hm : longOf (meansP l st) = longOf [115, 116, 114] := by unfold meansP; rw [if_neg h1]; rfl
    rw [hm]
    have g1 : ((st : Int) == 1) = false := by rw [beq_eq_false_iff_ne]; omega
    generalize longOf (coreP l) = ct at *
    generalize longOf [115, 116, 114] = lg at *
    go_enter Tryz.func27, Tryz.ntmps27
    go_wp2_with fail
    refine (hLg _).mono ?_
    rintro e w1 ⟨rfl, rfl⟩
    go_wp2_with fail
    go_ret
    exact ⟨rfl, Below.refl _ _⟩
end Go.Proofs.YtjfgcbikdibjeaaGreatDoor
