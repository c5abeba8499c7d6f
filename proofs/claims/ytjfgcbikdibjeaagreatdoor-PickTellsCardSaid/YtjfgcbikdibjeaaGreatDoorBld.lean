/- strings.Builder over this dump (its copyCheck bears a refused statement, so the shelf's own laying of these does not fit): copyCheck, WriteRune, WriteString, WriteByte. The walks follow the kit's own. -/
import Derived.Test.YtjfgcbikdibjeaaGreatDoorBase
import Derived.Test.YtjfgcbikdibjeaaGreatDoorShelf
import Derived.BigCall
namespace Go.Proofs.YtjfgcbikdibjeaaGreatDoor
open Go.RowKit U Go.Proofs

theorem Bld.size : (Tryz.prog.info? 78).map (·.size) = some 2 := by kernel_rfl
theorem Bld.lies : liesAt Tryz.prog Tryz.prog.depth 78 (2 / Tryz.prog.cellsOf 78) 0 78 1 = true := by kernel_rfl
theorem Bld.byte : (Tryz.prog.info? 5).map (fun i => (i.zero, i.size, i.bytes)) = some (some (.int .u8 0), 1, 1) := by kernel_rfl

/-- A builder in block b that the call has made and that holds these bytes. -/
def IsB (B b : Nat) (l : List UInt8) (w : World) : Prop := Lib.IsBuilderF 78 5 B b (Lib.byteCells l) w
def AtB (B b : Nat) (l : List UInt8) (w : World) : Prop := Lib.BuilderAtF 78 5 B b (.pointer (some ⟨b, 0, none⟩)) (Lib.byteCells l) w
theorem AtB.is {B b : Nat} {l : List UInt8} {w : World} (h : AtB B b l w) : IsB B b l w := Or.inr h
/-- What a writer leaves. -/
def Wrote (B b : Nat) (l : List UInt8) (w w' : World) : Prop := AtB B b l w' ∧ Below B w w' ∧ Lib.OthersKept 5 (some b) w w'

set_option maxHeartbeats 1000000 in
set_option maxRecDepth 100000 in
theorem bldCheck_used (b : Nat) (w : World) (h0 : w.cell? ⟨b, 0, none⟩ = some (.pointer (some ⟨b, 0, none⟩))) :
    Calls Tryz.prog 106 #[.pointer (some ⟨b, 0, none⟩)] w fun e w' => e = .returned (.tuple #[]) ∧ w' = w := by
  obtain ⟨j, hj, _⟩ := Option.map_eq_some_iff.1 Bld.size
  go_enter Tryz.func106, Tryz.ntmps106
  go_wp2
  rw [Lib.run_neq_ptr_same w _ Tryz.underlying75 hj]
  go_wp2
  go_end0
  exact ⟨rfl, rfl⟩

set_option maxHeartbeats 1000000 in
set_option maxRecDepth 100000 in
theorem bldCheck_fresh (b : Nat) (w : World) (h0 : w.cell? ⟨b, 0, none⟩ = some (.pointer none)) (hsh : w.shape? b = some (78, 2)) (hfz : w.frozen? ⟨b, 0, none⟩ = false) :
    Calls Tryz.prog 106 #[.pointer (some ⟨b, 0, none⟩)] w fun e w' => e = .returned (.tuple #[]) ∧ w' = w.setCell ⟨b, 0, none⟩ (.pointer (some ⟨b, 0, none⟩)) := by
  obtain ⟨j, hj, hjs⟩ := Option.map_eq_some_iff.1 Bld.size
  go_enter Tryz.func106, Tryz.ntmps106
  go_wp2
  rw [Lib.run_to_unsafe w ⟨b, 0, none⟩ Tryz.underlying75 Tryz.underlying149 hj (by rw [hjs]; decide) hsh (Nat.zero_lt_succ 1)]
  simp only [Result.andThen]
  rw [Oper.upon_value]
  go_wp2
  rw [run_callFunc_extern Tryz.func145 (by kernel_rfl) (by kernel_rfl) (by kernel_rfl) (e := Extern.AbiNoEscape.same) (by kernel_rfl)]
  rw [Lib.run_noEscape]
  simp only [Result.andThen]
  rw [Oper.upon_value]
  go_wp2
  rw [Lib.run_from_unsafe w ⟨b, 0, none⟩ Tryz.underlying149 Tryz.underlying75 hj hsh Bld.lies]
  simp only [Result.andThen]
  rw [Oper.upon_value]
  go_wp2
  go_end0
  exact ⟨rfl, rfl⟩

theorem bldCheck_c (B b : Nat) (l : List UInt8) (w : World) (h : IsB B b l w) :
    Calls Tryz.prog 106 #[.pointer (some ⟨b, 0, none⟩)] w fun e w' => e = .returned (.tuple #[]) ∧ Wrote B b l w w' := by
  rcases h with h | h
  · refine (bldCheck_fresh b w h.cell0 h.shape h.frozen0).mono ?_
    rintro e w' ⟨rfl, rfl⟩
    exact ⟨rfl, h.used _, (Below.refl B w).setCell (p := ⟨b, 0, none⟩) h.1 _, (Lib.OthersKept.refl _ _ w).setCell ⟨b, 0, none⟩ rfl _⟩
  · refine (bldCheck_used b w h.cell0).mono ?_
    rintro e w' ⟨rfl, rfl⟩
    exact ⟨rfl, h, Below.refl B _, Lib.OthersKept.refl _ _ _⟩

end Go.Proofs.YtjfgcbikdibjeaaGreatDoor
