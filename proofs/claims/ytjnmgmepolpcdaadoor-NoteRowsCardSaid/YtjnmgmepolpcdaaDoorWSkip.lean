/- The walk of note.Skip. -/
import Derived.Test.YtjnmgmepolpcdaaDoorWPass
import Derived.Test.YtjnmgmepolpcdaaDoorWRefNote
namespace Go.Proofs.YtjnmgmepolpcdaaDoor
open Go.RowKit U Go.Proofs

attribute [local go_sem] ite_min' ite_max'
set_option maxRecDepth 100000 in
set_option maxHeartbeats 1000000 in
theorem noteHeld_c (l : List UInt8) (a : Int) (w : World) (hs : l.length ≤ 1073741824) :
    Calls Tryd.prog 44 #[.string ⟨l.toArray⟩, .int .i64 a] w fun e w' => e = .returned (.int .i64 (heldM l a)) ∧ w = w' := by
  have hn : (heldM l a : Int) = min (max a 0) (l.length : Int) := by unfold heldM; omega
  generalize heldM l a = n at *
  have HN := Lib.hid hn
  clear hn
  go_enter Tryd.func44, Tryd.ntmps44
  go_wp2_with fail
  go_ret
  exact ⟨ret_int (by rw [HN.out]), rfl⟩
set_option maxRecDepth 100000 in
set_option maxHeartbeats 1000000 in
theorem always_c (w : World) : Calls Tryd.prog 46 #[] w fun e w' => e = .returned (.bool true) ∧ w = w' := by
  go_enter Tryd.func46, Tryd.ntmps46
  go_wp2_with fail
  go_ret
  exact ⟨rfl, rfl⟩
theorem always_is (W0 : World) (g : Nat) (l : List UInt8) (b0 : Nat) : RowIs W0 g l b0 (fun _ => none) 46 #[] := fun w p xs nr lv h hp _ =>
  (always_c w).mono (by rintro e w' ⟨rfl, rfl⟩; exact ⟨rfl, hp, h⟩)
theorem ask_skip (w : World) : Sem.run Tryd.prog (callFunc 46 #[]) w = .ok (.enter 46 #[]) w := by kernel_rfl
theorem index_tab {l : List UInt8} : ∀ (k p : Nat), p + k ≤ l.length → Lib.indexByte ((l.drop p).take k) 9 = if 0 ≤ tabF l k p then tabF l k p - p else -1 := by
  intro k
  induction k with
  | zero => intro p _; rw [List.take_zero]; rfl
  | succ k ih =>
    intro p h
    rw [List.drop_eq_getElem_cons (by omega), List.take_succ_cons, tabF]
    unfold Lib.indexByte
    have hg := byt_get l p (by omega)
    by_cases h9 : byt l p = 9
    · have : (l[p]'(by omega)) = 9 := UInt8.toNat.inj (by rw [hg, h9]; rfl)
      rw [if_pos h9, this]
      simp
    · have : ((l[p]'(by omega)) == (9 : UInt8)) = false := by
        rw [beq_eq_false_iff_ne]
        intro e
        rw [e] at hg
        exact h9 hg.symm
      rw [if_neg h9, this, ih (p + 1) (by omega)]
      have hsp := tabF_spec l k (p + 1)
      generalize tabF l k (p + 1) = t at *
      simp only [Bool.false_eq_true, if_false]
      rcases hsp with ⟨rfl, _⟩ | ⟨j, rfl, hj, _⟩
      · simp
      · have e1 : (((j : Int) - ((p + 1 : Nat) : Int)) == -1) = false := by rw [beq_eq_false_iff_ne]; omega
        have e2 : (0 : Int) ≤ (j : Int) := by omega
        simp only [e2, if_true, e1, Bool.false_eq_true, if_false]
        omega
theorem passer_new (w : World) (l : List UInt8) (b : Nat) : PS w (w.alloc (.cells #[.string ⟨l.toArray⟩, .int .i64 b, .int .i64 b, .slice none 0 0, .bool false] 66)) w.heap.size l b b [] false (.slice none 0 0) :=
  ⟨only_below (only_refl w _) ((Below.refl w.heap.size w).alloc (Nat.le_refl _) _) (Nat.le_refl _), Full.new w _ [.string ⟨l.toArray⟩, .int .i64 b, .int .i64 b, .slice none 0 0, .bool false], World.ownsRow_nil _ _ _ _⟩
set_option maxRecDepth 100000 in
set_option maxHeartbeats 4000000 in
theorem skip_c (l : List UInt8) (a : Int) (w : World) (hs : l.length ≤ 1000000) :
    Calls Tryd.prog 27 #[.string ⟨l.toArray⟩, .int .i64 a] w (NotesRet (skipM l (heldM l a)) w) := by
  have hH := fun w => noteHeld_c l a w (by omega)
  have hb := heldM_le l a
  generalize heldM l a = b at *
  have hP0 := pass_c (fun _ => none) _ _ (always_is w w.heap.size l b) ask_skip (passer_new w l b) hs hb (Nat.zero_le _)
  have hsk : skipM l b = skipOf l b (passR l b (fun _ => none) true b [] false) := rfl
  generalize passR l b (fun _ => none) true b [] false = r at *
  obtain ⟨acc, nr, p, ok⟩ := r
  generalize skipM l b = R at *
  have HS := Lib.hid hsk
  clear hsk
  go_enter Tryd.func27, Tryd.ntmps27
  go_wp2_with fail
  refine (hH _).mono ?_
  rintro e w1 ⟨rfl, rfl⟩
  go_wp2_with fail
  refine (hH _).mono ?_
  rintro e w1 ⟨rfl, rfl⟩
  go_wp2_with fail
  refine hP0.mono ?_
  rintro e w1 ⟨rfl, hpl, hal, lv, hps⟩
  obtain ⟨va, vc, rfl⟩ := own_shape hps.own
  have hpl : p ≤ l.length := hpl
  have hR := fun w => row_n l p w (by omega) hpl
  have hK := fun w => kind_n l p w (by omega) hpl
  have hf := rowFrom_le l p
  have hix := index_tab (l := l) (p - rowFrom l p) (rowFrom l p) (by omega)
  have htb := tabF_spec l (p - rowFrom l p) (rowFrom l p)
  have hI := fun w => Tryd.strings_IndexByte ⟨((l.drop (rowFrom l p)).take (p - rowFrom l p)).toArray⟩ 9 w
  rw [show Lib.indexByte (⟨((l.drop (rowFrom l p)).take (p - rowFrom l p)).toArray⟩ : ByteArray).data.toList (Int.toNat 9).toUInt8 = Lib.indexByte ((l.drop (rowFrom l p)).take (p - rowFrom l p)) 9 from rfl, hix] at hI
  have hs2 := HS.out
  unfold skipOf at hs2
  simp only [] at hs2
  have HPS := Lib.hid hps
  have hpc : PS w w1 w.heap.size l p b acc nr (.slice va acc.length vc) := hps
  obtain ⟨c0, c1, c2, c3, c4⟩ := hpc.cells
  clear hix HS hP0 hps hpc
  generalize tabF l (p - rowFrom l p) (rowFrom l p) = t at *
  generalize rowTo l p = to' at *
  generalize kindM l p = k at *
  generalize rowFrom l p = f at *
  rcases htb with ⟨rfl, _⟩ | ⟨j, rfl, hfj, hjp, _⟩
  · rw [if_neg (by omega)] at hI hs2
    have HE := Lib.hid hs2
    clear hs2
    go_wp2_with fail
    refine (hR _).mono ?_
    rintro e w2 ⟨rfl, rfl⟩
    go_wp2_with fail
    refine (hI _).mono ?_
    rintro e w2 ⟨rfl, rfl⟩
    go_wp2_with fail
    go_quiet (fail)
    go_wp2_with fail
    exact bodyPost_ret (v := .tuple #[.slice va acc.length vc, .bool nr, .int .i64 p, .int .i64 0]) (by simp [results, Tryd.results27, go_sem]) rfl ⟨_, by rw [HE.out], by rw [HE.out]; exact (HPS.out.drewN _).own, by have := HPS.out.drewN 1; exact below_only (Below.refl _ _) (HPS.out.drewN _).only (Nat.le_refl _) (Nat.le_refl _)⟩
  · rw [if_pos (by omega), show ((j : Nat) : Int) - (f : Int) = ((j - f : Nat) : Int) by omega] at hI
    have hjf : ((f : Int) + ((j - f : Nat) : Int)) = (j : Int) := by omega
    have hfd : f + (j - f) ≤ l.length := by omega
    generalize j - f = d at *
    by_cases hbf : b ≤ f
    · have gbf : decide ((b : Int) ≤ (f : Int)) = true := by simp; omega
      by_cases hk5 : k = 5
      · have HE : Hid (R = ([], false, ((f : Int) + (d : Int)), 4)) := Lib.hid (by rw [hs2, if_pos ⟨by omega, hbf, hk5⟩, hjf])
        subst hk5
        clear hs2 hjf
        go_wp2_with fail
        refine (hR _).mono ?_
        rintro e w2 ⟨rfl, rfl⟩
        go_wp2_with fail
        refine (hI _).mono ?_
        rintro e w2 ⟨rfl, rfl⟩
        go_wp2_with fail
        refine (hK _).mono ?_
        rintro e w2 ⟨rfl, rfl⟩
        go_wp2_with fail
        exact bodyPost_ret (v := .tuple #[.slice none 0 0, .bool false, .int .i64 ((f : Int) + (d : Int)), .int .i64 4]) (by simp [results, Tryd.results27, go_sem]) rfl (by rw [HE.out]; exact notes_no _ _ _ _ _ (below_only (Below.refl _ _) HPS.out.only (Nat.le_refl _) (Nat.le_refl _)))
      · have HE : Hid (R = (acc, nr, (p : Int), 0)) := Lib.hid (by rw [hs2, if_neg (fun h => hk5 h.2.2)])
        have gk5 : ((k : Int) == 5) = false := by rw [beq_eq_false_iff_ne]; omega
        clear hs2 hjf hk5
        go_wp2_with fail
        refine (hR _).mono ?_
        rintro e w2 ⟨rfl, rfl⟩
        go_wp2_with fail
        refine (hI _).mono ?_
        rintro e w2 ⟨rfl, rfl⟩
        go_wp2_with fail
        refine (hK _).mono ?_
        rintro e w2 ⟨rfl, rfl⟩
        go_wp2_with fail
        go_quiet (fail)
        go_wp2_with fail
        exact bodyPost_ret (v := .tuple #[.slice va acc.length vc, .bool nr, .int .i64 p, .int .i64 0]) (by simp [results, Tryd.results27, go_sem]) rfl ⟨_, by rw [HE.out], by rw [HE.out]; exact (HPS.out.drewN _).own, by have := HPS.out.drewN 1; exact below_only (Below.refl _ _) (HPS.out.drewN _).only (Nat.le_refl _) (Nat.le_refl _)⟩
    · have gbf : decide ((b : Int) ≤ (f : Int)) = false := by simp; omega
      have HE : Hid (R = (acc, nr, (p : Int), 0)) := Lib.hid (by rw [hs2, if_neg (fun h => hbf h.2.1)])
      have hbf2 : f < b := by omega
      clear hs2 hjf hbf
      go_wp2_with fail
      refine (hR _).mono ?_
      rintro e w2 ⟨rfl, rfl⟩
      go_wp2_with fail
      refine (hI _).mono ?_
      rintro e w2 ⟨rfl, rfl⟩
      go_wp2_with fail
      go_quiet (fail)
      go_wp2_with fail
      exact bodyPost_ret (v := .tuple #[.slice va acc.length vc, .bool nr, .int .i64 p, .int .i64 0]) (by simp [results, Tryd.results27, go_sem]) rfl ⟨_, by rw [HE.out], by rw [HE.out]; exact (HPS.out.drewN _).own, by have := HPS.out.drewN 1; exact below_only (Below.refl _ _) (HPS.out.drewN _).only (Nat.le_refl _) (Nat.le_refl _)⟩
end Go.Proofs.YtjnmgmepolpcdaaDoor
