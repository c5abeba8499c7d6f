/- The walk of utfs.Width. -/
import Derived.Test.YtipcfdebbjfecaaDoorBase
namespace Go.Proofs.YtipcfdebbjfecaaDoor
open Go.RowKit U Go.Proofs

set_option maxRecDepth 100000 in
set_option maxHeartbeats 1000000 in
theorem width_c (l : List UInt8) (w : World) (hs : l.length ≤ 1073741824) :
    Calls Tryd.prog 21 #[.string ⟨l.toArray⟩] w fun e w' => e = .returned (.int .i64 (width l)) ∧ Below w.heap.size w w' := by
  go_enter Tryd.func21, Tryd.ntmps21
  go_wp2
  go_loopw [3] (fun n wr => ∃ pos acc : Nat, pos ≤ l.length ∧ wr.heap[w.heap.size]? = some (.stringIter ⟨l.toArray⟩ pos) ∧ Below w.heap.size w wr ∧ n = .int .i64 acc ∧ Hid (acc + (units pos (l.drop pos)).length = width l) ∧ acc ≤ pos) (fun _ wr => l.length - wr.iterPos w.heap.size)
  case atStart =>
    refine ⟨0, 0, Nat.zero_le _, ?_, (Below.refl _ w).alloc (Nat.le_refl _) _, rfl, Lib.hid ?_, Nat.le_refl _⟩
    · exact World.iter_heap w _ 0
    · simp [width]
  case round =>
    obtain ⟨pos, acc, hp, hit, hbw, rfl, hP, hacc⟩ := hrel
    by_cases hlt : pos < l.length
    · obtain ⟨r, n, HD, HU, hn1, hn2, hr, hnx, hit2, hbw2, hsz, hsz2⟩ := range_at Tryd.prog hit hlt hbw (Nat.le_refl _)
      go_wp2
      refine ⟨⟨pos + n, acc + 1, by omega, hit2, hbw2, by go_num, Lib.hid ?_, by omega⟩, ?_⟩
      · rw [← hP.out, HU.out]; simp; omega
      · rw [iterPos_of hit, iterPos_of hit2]; omega
    · have hnx := range_end Tryd.prog hit hlt
      go_wp2
      go_ret
      refine ⟨ret_int ?_, hbw⟩
      rw [← hP.out, units_end hlt]
      simp
end Go.Proofs.YtipcfdebbjfecaaDoor
