/- The walk of utfs.Place (for a seat without the rest of package utfs). -/
import Derived.Test.YtjfgcbikdibjeaaGreatDoorBase
import Derived.Test.YtjfgcbikdibjeaaGreatDoorShelf
namespace Go.Proofs.YtjfgcbikdibjeaaGreatDoor
open Go.RowKit U Go.Proofs

set_option maxHeartbeats 400000 in
theorem broken_c (r n : Int) (w : World) :
    Calls Tryz.prog 75 #[.int .i32 r, .int .i64 n] w fun e w' => e = .returned (.bool (r == 65533 && decide (n < 2))) ∧ w = w' := by
  go_enter Tryz.func75, Tryz.ntmps75
  go_wp2
  all_goals (go_ret; refine ⟨ret_bool ?_, rfl⟩)
  all_goals simp [*]

set_option maxRecDepth 100000 in
set_option maxHeartbeats 1000000 in
theorem place_c (l : List UInt8) (w : World) (hE : Env w) (_hs : l.length ≤ 1073741824) :
    Calls Tryz.prog 37 #[.string ⟨l.toArray⟩] w fun e w' => e = .returned (.int .i64 (place l)) ∧ Below w.heap.size w w' := by
  go_enter Tryz.func37, Tryz.ntmps37
  go_wp2
  go_loopw [] (fun wr => ∃ pos : Nat, pos ≤ l.length ∧ wr.heap[w.heap.size]? = some (.stringIter ⟨l.toArray⟩ pos) ∧ Below w.heap.size w wr ∧ Hid (placeOf (units pos (l.drop pos)) = place l)) (fun wr => l.length - wr.iterPos w.heap.size)
  case atStart =>
    refine ⟨0, Nat.zero_le _, ?_, (Below.refl _ w).alloc (Nat.le_refl _) _, Lib.hid rfl⟩
    exact World.iter_heap w _ 0
  case round =>
    obtain ⟨pos, hp, hit, hbw, hP⟩ := hrel
    by_cases hlt : pos < l.length
    · obtain ⟨r, n, HD, HU, hn1, hn2, hr, hnx, hit2, hbw2, hsz, hsz2⟩ := range_at Tryz.prog hit hlt hbw (Nat.le_refl _)
      obtain ⟨W, hW⟩ : ∃ W, W = wr.iterAt w.heap.size ⟨l.toArray⟩ (pos + n) := ⟨_, rfl⟩
      rw [← hW] at hnx hit2 hbw2 hsz2
      clear hW
      have HS2 := Lib.hid hsz2
      clear hsz2
      by_cases hb : r = 65533
      · obtain rfl := hb
        have hT := (hE.below hbw2).tabs
        have hdg : Lib.decodeGo (⟨(l.drop pos).toArray⟩ : ByteArray) = (65533, n) := by
          unfold Lib.decodeGo
          rw [size_mk, if_neg (by simp; omega), decode_mk]
          exact HD.out
        have HG := Lib.hid hdg
        clear hdg
        by_cases hn : n = 1
        · subst hn
          go_wp2_with (first | (go_at_call 74; refine (Tryz.utf8_DecodeRuneInString ⟨(l.drop pos).toArray⟩ _ hT).mono ?_; rw [HG.out]; rintro e w1 ⟨rfl, hb1⟩) | (go_at_call 75; refine (broken_c 65533 _ _).mono ?_; rintro e w2 ⟨rfl, rfl⟩))
          go_ret
          refine ⟨ret_int ?_, hbw2.trans (hb1.mono hbw2.size)⟩
          rw [← hP.out, HU.out, placeOf_bad _ _ (by rfl)]
        · have hge : 2 ≤ n := by omega
          clear hn
          go_wp2_with (first | (go_at_call 74; refine (Tryz.utf8_DecodeRuneInString ⟨(l.drop pos).toArray⟩ _ hT).mono ?_; rw [HG.out]; rintro e w1 ⟨rfl, hb1⟩) | (go_at_call 75; refine (broken_c 65533 _ _).mono ?_; rintro e w2 ⟨rfl, rfl⟩))
          have hit3 : w1.heap[w.heap.size]? = some (.stringIter ⟨l.toArray⟩ (pos + n)) := (hb1.block _ (by have := HS2.out; omega)).trans hit2
          refine ⟨⟨pos + n, by omega, hit3, hbw2.trans (hb1.mono hbw2.size), Lib.hid ?_⟩, ?_⟩
          · rw [← hP.out, HU.out, placeOf_good _ _ (by simp; omega)]
          · rw [iterPos_of hit, iterPos_of hit3]; omega
      · have hb' : ((r : Int) != 65533) = true := by simp; omega
        go_wp2
        refine ⟨⟨pos + n, by omega, hit2, hbw2, Lib.hid ?_⟩, ?_⟩
        · rw [← hP.out, HU.out, placeOf_good _ _ (by simp; omega)]
        · rw [iterPos_of hit, iterPos_of hit2]; omega
    · have hnx := range_end Tryz.prog hit hlt
      go_wp2
      go_ret
      refine ⟨ret_int ?_, hbw⟩
      rw [← hP.out, units_end hlt]
      rfl
end Go.Proofs.YtjfgcbikdibjeaaGreatDoor
