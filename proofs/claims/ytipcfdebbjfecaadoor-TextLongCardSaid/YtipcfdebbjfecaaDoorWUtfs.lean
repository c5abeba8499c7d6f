/- The walks of package utfs. -/
import Derived.Test.YtipcfdebbjfecaaDoorWWidth
import Derived.Test.YtipcfdebbjfecaaDoorShelf
namespace Go.Proofs.YtipcfdebbjfecaaDoor
open Go.RowKit U Go.Proofs

set_option maxHeartbeats 400000 in
theorem broken_c (r n : Int) (w : World) :
    Calls Tryd.prog 40 #[.int .i32 r, .int .i64 n] w fun e w' => e = .returned (.bool (r == 65533 && decide (n < 2))) ∧ w = w' := by
  go_enter Tryd.func40, Tryd.ntmps40
  go_wp2
  all_goals (go_ret; refine ⟨ret_bool ?_, rfl⟩)
  all_goals simp [*]

theorem Tryd.infoI32' : (Tryd.prog.info? 21).map (fun i => (i.zero, i.size, i.bytes)) = some (some (.int .i32 0), 1, 4) := by kernel_rfl

set_option maxRecDepth 100000 in
set_option maxHeartbeats 1000000 in
theorem runes_c (l : List UInt8) (w : World) (hs : l.length ≤ 1073741824) :
    Calls Tryd.prog 19 #[.string ⟨l.toArray⟩] w (RetRow w 21 (i32s (runes l))) := by
  obtain ⟨i0, hi, hz0, hz1, hz2⟩ := info_parts Tryd.infoI32'
  go_enter Tryd.func19, Tryd.ntmps19
  go_wp2
  go_loopw [3] (fun v wr => ∃ (pos : Nat) (xs : List Int), pos ≤ l.length ∧ wr.heap[w.heap.size]? = some (.stringIter ⟨l.toArray⟩ pos) ∧ wr.ownsRow (w.heap.size + 1) 21 1 v xs.length (i32s xs) ∧ Below w.heap.size w wr ∧ Hid (xs ++ (units pos (l.drop pos)).map (fun u => (u.2.1 : Int)) = runes l) ∧ xs.length ≤ pos) (fun _ wr => l.length - wr.iterPos w.heap.size)
  case atStart =>
    refine ⟨0, [], Nat.zero_le _, ?_, own_nil _ _ _, (Below.refl _ w).alloc (Nat.le_refl _) _, Lib.hid rfl, Nat.le_refl _⟩
    exact World.iter_heap w _ 0
  case round =>
    obtain ⟨pos, xs, hp, hit, hown, hbw, hP, hxl⟩ := hrel
    by_cases hlt : pos < l.length
    · obtain ⟨r, n, HD, HU, hn1, hn2, hr, hnx, hit2, hbw2, hsz, hsz2⟩ := range_at Tryd.prog hit hlt hbw (Nat.le_refl _)
      have hown2 := ownsRow_iterAt hown (k := w.heap.size) (by omega) ⟨l.toArray⟩ (pos + n)
      obtain ⟨W, hW⟩ : ∃ W, W = wr.iterAt w.heap.size ⟨l.toArray⟩ (pos + n) := ⟨_, rfl⟩
      rw [← hW] at hnx hit2 hbw2 hown2 hsz2
      clear hW
      have hc3 : xs.length + 1 ≤ maxLen := by unfold maxLen; omega
      have hc4 : (xs.length + 1) * 4 ≤ 140737488355328 := by omega
      have hbB := Below.refl (w.heap.size + 1) W
      have hszW : w.heap.size + 1 ≤ W.heap.size := by omega
      have HS2 := Lib.hid hsz2
      clear hsz2
      go_wp2_with (at_builtin; refine wpList_push rfl _ _ 25 rfl (w.heap.size + 1) 21 i0 (.int .i32 0) 4 Tryd.underlying25 hi hz0 hz1 hz2 rfl u3 _ _ _ rfl hown2 rfl rfl hc3 hc4 hbB hszW ?_; intro v1 w1 hown1 hbw1)
      have hit3 : w1.heap[w.heap.size]? = some (.stringIter ⟨l.toArray⟩ (pos + n)) := (hbw1.block _ (by omega)).trans hit2
      refine ⟨⟨pos + n, xs ++ [(r : Int)], by omega, hit3, by simpa [i32s_snoc] using hown1, hbw2.trans (hbw1.mono (by omega)), Lib.hid ?_, by simp; omega⟩, ?_⟩
      · rw [← hP.out, HU.out]; simp
      · rw [iterPos_of hit, iterPos_of hit3]; omega
    · have hnx := range_end Tryd.prog hit hlt
      go_wp2
      go_ret
      have : xs = runes l := by rw [← hP.out, units_end hlt]; simp
      subst this
      exact retRow_of (i32s_length _) (own_mono hown (by omega)) hbw

set_option maxRecDepth 100000 in
set_option maxHeartbeats 1000000 in
theorem place_c (l : List UInt8) (w : World) (hE : Env w) (_hs : l.length ≤ 1073741824) :
    Calls Tryd.prog 16 #[.string ⟨l.toArray⟩] w fun e w' => e = .returned (.int .i64 (place l)) ∧ Below w.heap.size w w' := by
  go_enter Tryd.func16, Tryd.ntmps16
  go_wp2
  go_loopw [] (fun wr => ∃ pos : Nat, pos ≤ l.length ∧ wr.heap[w.heap.size]? = some (.stringIter ⟨l.toArray⟩ pos) ∧ Below w.heap.size w wr ∧ Hid (placeOf (units pos (l.drop pos)) = place l)) (fun wr => l.length - wr.iterPos w.heap.size)
  case atStart =>
    refine ⟨0, Nat.zero_le _, ?_, (Below.refl _ w).alloc (Nat.le_refl _) _, Lib.hid rfl⟩
    exact World.iter_heap w _ 0
  case round =>
    obtain ⟨pos, hp, hit, hbw, hP⟩ := hrel
    by_cases hlt : pos < l.length
    · obtain ⟨r, n, HD, HU, hn1, hn2, hr, hnx, hit2, hbw2, hsz, hsz2⟩ := range_at Tryd.prog hit hlt hbw (Nat.le_refl _)
      obtain ⟨W, hW⟩ : ∃ W, W = wr.iterAt w.heap.size ⟨l.toArray⟩ (pos + n) := ⟨_, rfl⟩
      rw [← hW] at hnx hit2 hbw2 hsz2
      clear hW
      have HS2 := Lib.hid hsz2
      clear hsz2
      by_cases hb : r = 65533
      · obtain rfl := hb
        have hT := (hE.below hbw2).tabs
        have hdg : Lib.decodeGo (⟨(l.drop pos).toArray⟩ : ByteArray) = (65533, n) := by
          unfold Lib.decodeGo
          rw [size_mk, if_neg (by simp; omega), decode_mk]
          exact HD.out
        have HG := Lib.hid hdg
        clear hdg
        by_cases hn : n = 1
        · subst hn
          go_wp2_with (first | (go_at_call 39; refine (Tryd.utf8_DecodeRuneInString ⟨(l.drop pos).toArray⟩ _ hT).mono ?_; rw [HG.out]; rintro e w1 ⟨rfl, hb1⟩) | (go_at_call 40; refine (broken_c 65533 _ _).mono ?_; rintro e w2 ⟨rfl, rfl⟩))
          go_ret
          refine ⟨ret_int ?_, hbw2.trans (hb1.mono hbw2.size)⟩
          rw [← hP.out, HU.out, placeOf_bad _ _ (by rfl)]
        · have hge : 2 ≤ n := by omega
          clear hn
          go_wp2_with (first | (go_at_call 39; refine (Tryd.utf8_DecodeRuneInString ⟨(l.drop pos).toArray⟩ _ hT).mono ?_; rw [HG.out]; rintro e w1 ⟨rfl, hb1⟩) | (go_at_call 40; refine (broken_c 65533 _ _).mono ?_; rintro e w2 ⟨rfl, rfl⟩))
          have hit3 : w1.heap[w.heap.size]? = some (.stringIter ⟨l.toArray⟩ (pos + n)) := (hb1.block _ (by have := HS2.out; omega)).trans hit2
          refine ⟨⟨pos + n, by omega, hit3, hbw2.trans (hb1.mono hbw2.size), Lib.hid ?_⟩, ?_⟩
          · rw [← hP.out, HU.out, placeOf_good _ _ (by simp; omega)]
          · rw [iterPos_of hit, iterPos_of hit3]; omega
      · have hb' : ((r : Int) != 65533) = true := by simp; omega
        go_wp2
        refine ⟨⟨pos + n, by omega, hit2, hbw2, Lib.hid ?_⟩, ?_⟩
        · rw [← hP.out, HU.out, placeOf_good _ _ (by simp; omega)]
        · rw [iterPos_of hit, iterPos_of hit2]; omega
    · have hnx := range_end Tryd.prog hit hlt
      go_wp2
      go_ret
      refine ⟨ret_int ?_, hbw⟩
      rw [← hP.out, units_end hlt]
      rfl
end Go.Proofs.YtipcfdebbjfecaaDoor
