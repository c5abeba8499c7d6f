/- The walk of a passer's note, where there is one. -/
import Derived.Test.YtjnmgmepolpcdaaDoorWNote
import Derived.Test.YtjnmgmepolpcdaaDoorWCore
import Derived.Shelf.Strings.SlTrimAscii
import Derived.Deep.DeepCutAuto
import Derived.Test.YtjnmgmepolpcdaaDoorPeel
namespace Go.Proofs.YtjnmgmepolpcdaaDoor
open Go.RowKit U Go.Proofs

theorem gen_world {P R : World → Prop} (w : World) (h : R w) (k : ∀ w2, R w2 → P w2) : P w := k w h
section
variable {W0 w w' : World} {g : Nat} {l : List UInt8} {p b0 : Nat} {xs : Notes} {nr : Bool} {lv : Value}
theorem own_put {base : Nat} {e t : TypeId} {size n : Nat} {v : Value} {xs cs : List Value} (h : w.ownsRow base e size v n xs) (hf : Full w g t cs) (hne : e ≠ t) (i : Nat) (u : Value) : (w.setCell ⟨g, i, none⟩ u).ownsRow base e size v n xs :=
  h.kept (only_put (only_refl w (some g)) i u) (.inr (fun e' => own_far h hf hne e'.symm))
theorem PS.near (h : PS W0 w g l p b0 xs nr lv) (b : Bool) : PS W0 (w.setCell ⟨g, 4, none⟩ (.bool b)) g l p b0 xs b lv :=
  ⟨only_put h.only 4 _, h.full.put 4 _, own_put h.own h.full (by decide) 4 _⟩
theorem PS.go (h : PS W0 w g l p b0 xs nr lv) (q : Nat) : PS W0 (w.setCell ⟨g, 1, none⟩ (.int .i64 q)) g l q b0 xs nr lv :=
  ⟨only_put h.only 1 _, h.full.put 1 _, own_put h.own h.full (by decide) 1 _⟩
theorem PS.below (h : PS W0 w g l p b0 xs nr lv) (hb : Below w.heap.size w w') : PS W0 w' g l p b0 xs nr lv :=
  ⟨only_below h.only hb h.only.size, h.full.below hb h.full.lt, h.own.kept (row := none) ⟨hb.os, hb.tape, hb.output, hb.size, fun k hk _ => hb.block k hk⟩ (by cases hv : lv.ownBlock <;> simp)⟩
/-- Behind an append to its comments, ahead of the store. -/
theorem PS.appended {o : Obj} {w5 : World} (h : PS W0 w g l p b0 xs nr lv) (hg : (w.alloc o).grownBy w5 lv.ownBlock) : Full w5 g 66 [.string ⟨l.toArray⟩, .int .i64 p, .int .i64 b0, lv, .bool nr] :=
  (h.full.alloc o).grown hg (own_far h.own h.full (by decide))
theorem PS.appended_only {o : Obj} {w5 : World} (h : PS W0 w g l p b0 xs nr lv) (hg : (w.alloc o).grownBy w5 lv.ownBlock) : W0.grownBy w5 (some g) :=
  only_grown (only_below h.only ((Below.refl w.heap.size w).alloc (Nat.le_refl _) o) h.only.size) hg (fun k hk => (h.own.lt k hk).1)
theorem PS.stored {w5 : World} {ys : Notes} {v : Value} (ho : W0.grownBy w5 (some g)) (hf : Full w5 g 66 [.string ⟨l.toArray⟩, .int .i64 p, .int .i64 b0, lv, .bool nr]) (hw : w5.ownsRow W0.heap.size 38 2 v ys.length (cmts ys)) :
    PS W0 (w5.setCell ⟨g, 3, none⟩ v) g l p b0 ys nr v :=
  ⟨only_put ho 3 _, hf.put 3 _, own_put hw hf (by decide) 3 _⟩
theorem PS.trim (h : PS W0 w g l p b0 xs nr lv) (tx : List UInt8) (hs : tx.length ≤ 1073741824) :
    Calls Tryd.prog 53 #[.string ⟨tx.toArray⟩, .string ⟨#[32, 9]⟩] w fun e w' => e = .returned (.string ⟨(cutW tx).toArray⟩) ∧ PS W0 w' g l p b0 xs nr lv ∧ w'.cell? ⟨g, 3, none⟩ = some lv := by
  have hT := Any.strings_TrimRight_laid Tryd.lays162 (by kernel_rfl) ⟨tx.toArray⟩ ⟨#[32, 9]⟩ w (by rw [size_mk]; omega) (by decide) (ascii_of_all (by decide))
  refine Calls.mono (show Calls Tryd.prog 53 _ _ _ from hT) ?_
  rintro e w' ⟨rfl, hb⟩
  have hp : (fun b => [32, 9].contains b) = wh := byte_all (by decide +kernel)
  refine ⟨?_, h.below hb, (h.below hb).cells.2.2.2.1⟩
  show Ending.returned (.string ⟨((tx.reverse.dropWhile fun b => [32, 9].contains b).reverse).toArray⟩) = _
  rw [hp]
  rfl
end
set_option maxRecDepth 100000 in
set_option maxHeartbeats 8000000 in
theorem note_yes {W0 w : World} {g : Nat} {l : List UInt8} {p b0 : Nat} {xs : Notes} {nr : Bool} {lv : Value} (h : PS W0 w g l p b0 xs nr lv) (hs : l.length ≤ 1073741824) (hp : p < l.length) (hn : isNote l p = true)
    (hx : xs.length ≤ 1073741824) :
    Calls Tryd.prog 65 #[.pointer (some ⟨g, 0, none⟩)] w fun e w' => e = .returned (.bool true) ∧ ∃ lv', PS W0 w' g l (rowTo l p) b0 (xs ++ [(noteTx l p, aboveM l p)]) (if xs.isEmpty then decide (rowFrom l p < b0) else nr) lv' := by
  obtain ⟨c0, c1, c2, c3, c4⟩ := h.cells
  obtain ⟨h35, hq⟩ := note_split hn
  have g35 : ((byt l p : Int) != 35) = false := by rw [h35]; rfl
  have gl : ((p : Int) == (l.length : Int)) = false := by rw [beq_eq_false_iff_ne]; omega
  have hR := fun w => row_n l p w hs (by omega)
  have hf := rowFrom_le l p
  have ht := rowTo_le (l := l) (p := p) (by omega)
  have htp := note_to hp (by omega)
  have HQ := Lib.hid hq
  have H := Lib.hid h
  clear hn h35 h hq
  have hnr : (if xs.isEmpty then decide (rowFrom l p < b0) else nr) = if xs.length = 0 then decide (rowFrom l p < b0) else nr := by cases xs <;> rfl
  generalize (if xs.isEmpty then decide (rowFrom l p < b0) else nr) = nr' at *
  have HNR := Lib.hid hnr
  clear hnr
  go_enter Tryd.func65, Tryd.ntmps65
  go_upto_region 1 with fail
  go_cut [58] (fun s wx => s = .bool false ∧ PS W0 wx g l p b0 xs nr lv)
  case first =>
    rcases HQ.out with h0 | ⟨k, hk, he⟩
    · have g0 : ¬ 0 < p := by omega
      have gp : decide (0 < (p : Int)) = false := by simp; omega
      clear h0
      go_quiet (fail)
      go_wp2_with fail
      go_meet
      exact ⟨rfl, H.out.drewN _⟩
    · have hE := fun w => ends_c l k w hs (by omega)
      have hkq : (k : Int) = (p : Int) - 1 := by omega
      rw [he, hkq] at hE
      have g0 : 0 < p := by omega
      have gw : IntKind.i64.wrap ((p : Int) - 1) = (p : Int) - 1 := IntWalk.i64_in _ (by omega)
      clear he hk hkq
      go_quiet ((go_at_call 102; exact qs (hE _)))
      go_wp2_with fail
      go_meet
      exact ⟨rfl, H.out.drewN _⟩
  case rest =>
    obtain ⟨rfl, h1⟩ := hcut
    clear c0 c1 c2 c3 c4 H
    obtain ⟨c0, c1, c2, c3, c4⟩ := h1.cells
    have H := Lib.hid h1
    clear h1
    go_upto_region 3 with fail
    go_cut [3, 4] (fun u v wx => u = .int .i64 (rowFrom l p) ∧ v = .int .i64 (rowTo l p) ∧ PS W0 wx g l p b0 xs nr lv)
    case first =>
      go_quiet ((go_at_call 47; exact qs (hR _)))
      go_wp2_with fail
      go_meet
      exact ⟨rfl, rfl, H.out.drewN _⟩
    case rest =>
      obtain ⟨rfl, rfl, h1⟩ := hcut
      clear c0 c1 c2 c3 c4 H hR
      obtain ⟨a, c, rfl⟩ := own_shape h1.own
      obtain ⟨c0, c1, c2, c3, c4⟩ := h1.cells
      have f4 := h1.full.free 4
      have H := Lib.hid h1
      clear h1
      go_upto_if 76 with fail
      go_cut [] (fun wx => PS W0 wx g l p b0 xs nr' (.slice a xs.length c))
      case first =>
        by_cases hx0 : xs.length = 0
        · have gx : ((xs.length : Int) == 0) = true := by rw [hx0]; rfl
          have HN : Hid (nr' = decide (rowFrom l p < b0)) := Lib.hid (by rw [HNR.out, if_pos hx0])
          clear hx0
          go_wp2_with fail
          go_meet
          rw [HN.out]
          exact H.out.near _
        · have gx : ((xs.length : Int) == 0) = false := by rw [beq_eq_false_iff_ne]; omega
          have HN : Hid (nr' = nr) := Lib.hid (by rw [HNR.out, if_neg hx0])
          clear hx0
          go_wp2_with fail
          go_meet
          rw [HN.out]
          exact H.out
      case rest =>
        have h2 := hcut
        clear hcut c0 c1 c2 c3 c4 f4 H HNR
        go_upto_region 6 with fail
        obtain ⟨w2, hw2⟩ : ∃ w2, w2 = wc := ⟨_, rfl⟩
        rw [← hw2] at h2 ⊢
        clear hw2
        have hlx : ((l.drop (p + 1)).take (rowTo l p - (p + 1))).length ≤ 1073741824 := by rw [List.length_take, List.length_drop]; omega
        have hA := fun w => above_n l p w hs (by omega)
        have hn1 : xs.length + 1 ≤ maxLen := by unfold maxLen; omega
        have hn2 : (xs.length + 1) * 24 ≤ 140737488355328 := by omega
        have hw1 : IntKind.i64.wrap ((p : Int) + 1) = (p : Int) + 1 := IntWalk.i64_in _ (by omega)
        have hw2 : ((p : Int) + 1).toNat = p + 1 := by clear hw1; omega
        have hw3 : (0 : Int) ≤ (p : Int) + 1 := by clear hw1 hw2; omega
        have hw4 : (p : Int) + 1 ≤ (rowTo l p : Int) := by clear hw1 hw2 hw3; omega
        have hw5 : (rowTo l p : Int) ≤ (l.length : Int) := by clear hw1 hw2 hw3 hw4; omega
        obtain ⟨c0, c1, c2, c3, c4⟩ := h2.cells
        have h2d : PS W0 w2.drew g l p b0 xs nr' (.slice a xs.length c) := h2.drewN 1
        obtain ⟨i0, hi, hz0, hz1, hz2⟩ := info_parts Tryd.infoComment
        have HTP := Lib.hid htp
        go_cut [] (fun wx => ∃ lv', PS W0 wx g l p b0 (xs ++ [(noteTx l p, aboveM l p)]) nr' lv')
        case first =>
          clear hx hs hp g35 gl hf ht htp
          refine wp_region_peel (S := (fun w' => w'.cell? ⟨g, 0, none⟩ = some (.string ⟨l.toArray⟩) ∧ w'.cell? ⟨g, 1, none⟩ = some (.int .i64 p) ∧ w'.cell? ⟨g, 3, none⟩ = some (.slice a xs.length c))) (by kernel_rfl) rfl (by kernel_rfl) ?_
          simp only [List.dropLast_cons_cons, List.dropLast_singleton, List.length_cons, List.length_nil]
          have hHeld : (fun w' => w'.cell? ⟨g, 0, none⟩ = some (.string ⟨l.toArray⟩) ∧ w'.cell? ⟨g, 1, none⟩ = some (.int .i64 p) ∧ w'.cell? ⟨g, 3, none⟩ = some (.slice a xs.length c)) w2.drew := ⟨c0, c1, c3⟩
          refine wpAnyH_take (i := 0) (v := ?_) rfl (by kernel_rfl) (by kernel_rfl) (by kernel_rfl) (fun _ _ _ h => h) (Or.inl ⟨by rfl, ?_⟩) (by assumption) ?_
          rotate_left
          · intro w hSw; (try dsimp only at hSw); go_simp; (try with_reducible rfl)
          try simp only [Act.put, List.setIfInBounds_toArray, List.set_cons_zero, List.set_cons_succ]
          refine wpAnyH_take (i := 1) (v := ?_) rfl (by kernel_rfl) (by kernel_rfl) (by kernel_rfl) (fun _ _ _ h => h) (Or.inl ⟨by rfl, ?_⟩) (by assumption) ?_
          rotate_left
          · intro w hSw; (try dsimp only at hSw); go_simp; (try with_reducible rfl)
          try simp only [Act.put, List.setIfInBounds_toArray, List.set_cons_zero, List.set_cons_succ]
          refine wpAnyH_take (i := 2) (v := ?_) rfl (by kernel_rfl) (by kernel_rfl) (by kernel_rfl) (fun _ _ _ h => h) (Or.inl ⟨by rfl, ?_⟩) (by assumption) ?_
          rotate_left
          · intro w hSw; (try dsimp only at hSw); go_simp; (try with_reducible rfl)
          try simp only [Act.put, List.setIfInBounds_toArray, List.set_cons_zero, List.set_cons_succ]
          refine wpAnyH_take (i := 3) (v := ?_) rfl (by kernel_rfl) (by kernel_rfl) (by kernel_rfl) (fun _ _ _ h => h) (Or.inl ⟨by rfl, ?_⟩) (by assumption) ?_
          rotate_left
          · intro w hSw; (try dsimp only at hSw); go_simp; (try with_reducible rfl)
          try simp only [Act.put, List.setIfInBounds_toArray, List.set_cons_zero, List.set_cons_succ]
          refine wpAnyH_take (i := 4) (v := ?_) rfl (by kernel_rfl) (by kernel_rfl) (by kernel_rfl) (fun _ _ _ h => h) (Or.inl ⟨by rfl, ?_⟩) (by assumption) ?_
          rotate_left
          · intro w hSw; (try dsimp only at hSw); go_simp; (try with_reducible rfl)
          try simp only [Act.put, List.setIfInBounds_toArray, List.set_cons_zero, List.set_cons_succ]
          refine wpAnyH_take (i := 5) (v := ?_) rfl (by kernel_rfl) (by kernel_rfl) (by kernel_rfl) (fun _ _ _ h => h) (Or.inl ⟨by rfl, ?_⟩) (by assumption) ?_
          rotate_left
          · intro w hSw; (try dsimp only at hSw); go_simp; (try with_reducible rfl)
          try simp only [Act.put, List.setIfInBounds_toArray, List.set_cons_zero, List.set_cons_succ]
          refine wpAnyH_take (i := 6) (v := ?_) rfl (by kernel_rfl) (by kernel_rfl) (by kernel_rfl) (fun _ _ _ h => h) (Or.inl ⟨by rfl, ?_⟩) (by assumption) ?_
          rotate_left
          · intro w hSw; (try dsimp only at hSw); go_simp; (try with_reducible rfl)
          try simp only [Act.put, List.setIfInBounds_toArray, List.set_cons_zero, List.set_cons_succ]
          refine wpAnyH_take (i := 7) (v := ?_) rfl (by kernel_rfl) (by kernel_rfl) (by kernel_rfl) (fun _ _ _ h => h) (Or.inl ⟨by rfl, ?_⟩) (by assumption) ?_
          rotate_left
          · intro w hSw; (try dsimp only at hSw); go_simp; (try with_reducible rfl)
          try simp only [Act.put, List.setIfInBounds_toArray, List.set_cons_zero, List.set_cons_succ]
          refine wpAnyH_take (i := 8) (v := ?_) rfl (by kernel_rfl) (by kernel_rfl) (by kernel_rfl) (fun _ _ _ h => h) (Or.inl ⟨by rfl, ?_⟩) (by assumption) ?_
          rotate_left
          · intro w hSw; (try dsimp only at hSw); go_simp; (try with_reducible rfl)
          try simp only [Act.put, List.setIfInBounds_toArray, List.set_cons_zero, List.set_cons_succ]
          refine wpAnyH_take (i := 9) (v := ?_) rfl (by kernel_rfl) (by kernel_rfl) (by kernel_rfl) (fun _ _ _ h => h) (Or.inl ⟨by rfl, ?_⟩) (by assumption) ?_
          rotate_left
          · intro w hSw; (try dsimp only at hSw); go_simp; (try with_reducible rfl)
          try simp only [Act.put, List.setIfInBounds_toArray, List.set_cons_zero, List.set_cons_succ]
          refine wpAnyH_take (i := 10) (v := ?_) rfl (by kernel_rfl) (by kernel_rfl) (by kernel_rfl) (fun _ _ _ h => h) (Or.inl ⟨by rfl, ?_⟩) (by assumption) ?_
          rotate_left
          · intro w hSw; (try dsimp only at hSw); go_simp; (try with_reducible rfl)
          try simp only [Act.put, List.setIfInBounds_toArray, List.set_cons_zero, List.set_cons_succ]
          refine wpAnyH_take (i := 11) (v := ?_) rfl (by kernel_rfl) (by kernel_rfl) (by kernel_rfl) (fun _ _ _ h => h) (Or.inl ⟨by rfl, ?_⟩) (by assumption) ?_
          rotate_left
          · intro w hSw; (try dsimp only at hSw); go_simp; (try with_reducible rfl)
          try simp only [Act.put, List.setIfInBounds_toArray, List.set_cons_zero, List.set_cons_succ]
          refine wpAnyH_take (i := 12) (v := ?_) rfl (by kernel_rfl) (by kernel_rfl) (by kernel_rfl) (fun _ _ _ h => h) (Or.inl ⟨by rfl, ?_⟩) (by assumption) ?_
          rotate_left
          · intro w hSw; (try dsimp only at hSw); go_simp; (try with_reducible rfl)
          try simp only [Act.put, List.setIfInBounds_toArray, List.set_cons_zero, List.set_cons_succ]
          refine wpAnyH_take (i := 13) (v := ?_) rfl (by kernel_rfl) (by kernel_rfl) (by kernel_rfl) (fun _ _ _ h => h) (Or.inl ⟨by rfl, ?_⟩) (by assumption) ?_
          rotate_left
          · intro w hSw; (try dsimp only at hSw); go_simp; (try with_reducible rfl)
          try simp only [Act.put, List.setIfInBounds_toArray, List.set_cons_zero, List.set_cons_succ]
          refine wpAnyH_take (i := 14) (v := ?_) rfl (by kernel_rfl) (by kernel_rfl) (by kernel_rfl) (fun _ _ _ h => h) (Or.inl ⟨by rfl, ?_⟩) (by assumption) ?_
          rotate_left
          · intro w hSw; (try dsimp only at hSw); go_simp; (try with_reducible rfl)
          try simp only [Act.put, List.setIfInBounds_toArray, List.set_cons_zero, List.set_cons_succ]
          refine wpAnyH_take (i := 15) (v := ?_) rfl (by kernel_rfl) (by kernel_rfl) (by kernel_rfl) (fun _ _ _ h => h) (Or.inl ⟨by rfl, ?_⟩) (by assumption) ?_
          rotate_left
          · intro w hSw; (try dsimp only at hSw); go_simp; (try with_reducible rfl)
          try simp only [Act.put, List.setIfInBounds_toArray, List.set_cons_zero, List.set_cons_succ]
          refine wpAnyH_take (i := 17) (v := ?_) rfl (by kernel_rfl) (by kernel_rfl) (by kernel_rfl) (fun _ _ _ h => h) (Or.inl ⟨by rfl, ?_⟩) (by assumption) ?_
          rotate_left
          · intro w hSw; (try dsimp only at hSw); go_simp; (try with_reducible rfl)
          try simp only [Act.put, List.setIfInBounds_toArray, List.set_cons_zero, List.set_cons_succ]
          refine wpAnyH_take (i := 18) (v := ?_) rfl (by kernel_rfl) (by kernel_rfl) (by kernel_rfl) (fun _ _ _ h => h) (Or.inl ⟨by rfl, ?_⟩) (by assumption) ?_
          rotate_left
          · intro w hSw; (try dsimp only at hSw); go_simp; (try with_reducible rfl)
          try simp only [Act.put, List.setIfInBounds_toArray, List.set_cons_zero, List.set_cons_succ]
          refine wpAnyH_take (i := 19) (v := ?_) rfl (by kernel_rfl) (by kernel_rfl) (by kernel_rfl) (fun _ _ _ h => h) (Or.inl ⟨by rfl, ?_⟩) (by assumption) ?_
          rotate_left
          · intro w hSw; (try dsimp only at hSw); go_simp; (try with_reducible rfl)
          try simp only [Act.put, List.setIfInBounds_toArray, List.set_cons_zero, List.set_cons_succ]
          refine wpAnyH_take (i := 20) (v := ?_) rfl (by kernel_rfl) (by kernel_rfl) (by kernel_rfl) (fun _ _ _ h => h) (Or.inl ⟨by rfl, ?_⟩) (by assumption) ?_
          rotate_left
          · intro w hSw; (try dsimp only at hSw); go_simp; (try with_reducible rfl)
          try simp only [Act.put, List.setIfInBounds_toArray, List.set_cons_zero, List.set_cons_succ]
          refine wpAnyH_take (i := 21) (v := ?_) rfl (by kernel_rfl) (by kernel_rfl) (by kernel_rfl) (fun _ _ _ h => h) (Or.inl ⟨by rfl, ?_⟩) (by assumption) ?_
          rotate_left
          · intro w hSw; (try dsimp only at hSw); go_simp; (try with_reducible rfl)
          try simp only [Act.put, List.setIfInBounds_toArray, List.set_cons_zero, List.set_cons_succ]
          refine wpAnyH_take (i := 22) (v := ?_) rfl (by kernel_rfl) (by kernel_rfl) (by kernel_rfl) (fun _ _ _ h => h) (Or.inl ⟨by rfl, ?_⟩) (by assumption) ?_
          rotate_left
          · intro w hSw; (try dsimp only at hSw); go_simp; (try with_reducible rfl)
          try simp only [Act.put, List.setIfInBounds_toArray, List.set_cons_zero, List.set_cons_succ]
          refine wpAnyH_take (i := 23) (v := ?_) rfl (by kernel_rfl) (by kernel_rfl) (by kernel_rfl) (fun _ _ _ h => h) (Or.inl ⟨by rfl, ?_⟩) (by assumption) ?_
          rotate_left
          · intro w hSw; (try dsimp only at hSw); go_simp; (try with_reducible rfl)
          try simp only [Act.put, List.setIfInBounds_toArray, List.set_cons_zero, List.set_cons_succ]
          refine wpAnyH_take (i := 24) (v := ?_) rfl (by kernel_rfl) (by kernel_rfl) (by kernel_rfl) (fun _ _ _ h => h) (Or.inl ⟨by rfl, ?_⟩) (by assumption) ?_
          rotate_left
          · intro w hSw; (try dsimp only at hSw); go_simp; (try with_reducible rfl)
          try simp only [Act.put, List.setIfInBounds_toArray, List.set_cons_zero, List.set_cons_succ]
          refine wpAnyH_ready (rs := [16]) (by kernel_rfl) (by simp) ?_
          refine AllReadyH.cons rfl (fun K hK => ?_) AllReadyH.nil
          go_simp
          (go_at_call 53; (with_reducible refine (PS.trim h2d ((l.drop (p + 1)).take (rowTo l p - (p + 1))) hlx).mono ?_); rintro e w3 ⟨rfl, hP3, c33⟩; have hgl := hP3.full.lt)
          refine hK.out _ _ (⟨hP3.full.cell 0, hP3.full.cell 1, c33⟩) (fun hHeld => ?_)
          clear hK K
          try simp only [Act.put, List.setIfInBounds_toArray, List.set_cons_zero, List.set_cons_succ]
          refine wpAnyH_ready (rs := [25]) (by kernel_rfl) (by simp) ?_
          refine AllReadyH.cons rfl (fun K hK => ?_) AllReadyH.nil
          go_simp
          (go_at_call 103; (with_reducible refine (hA _).mono ?_); rintro e w4 ⟨rfl, rfl⟩)
          refine hK.out _ _ (hHeld) (fun hHeld => ?_)
          clear hK K
          try simp only [Act.put, List.setIfInBounds_toArray, List.set_cons_zero, List.set_cons_succ]
          refine wpAnyH_take (i := 26) (v := ?_) rfl (by kernel_rfl) (by kernel_rfl) (by kernel_rfl) (fun _ _ _ h => h) (Or.inl ⟨by rfl, ?_⟩) (by assumption) ?_
          rotate_left
          · intro w hSw; (try dsimp only at hSw); go_simp; (try with_reducible rfl)
          try simp only [Act.put, List.setIfInBounds_toArray, List.set_cons_zero, List.set_cons_succ]
          refine wpAnyH_ready (rs := [27]) (by kernel_rfl) (by simp) ?_
          refine AllReadyH.cons rfl (fun K hK => ?_) AllReadyH.nil
          go_simp
          refine hK.out _ _ (⟨(hP3.full.alloc _).cell 0, (hP3.full.alloc _).cell 1, (hP3.full.alloc _).cell 3⟩) (fun hHeld => ?_)
          clear hK K
          try simp only [Act.put, List.setIfInBounds_toArray, List.set_cons_zero, List.set_cons_succ]
          refine wpAnyH_ready (rs := [28]) (by kernel_rfl) (by simp) ?_
          refine AllReadyH.cons rfl (fun K hK => ?_) AllReadyH.nil
          refine step_append_lies _ (by rfl) _ _ _ (by rfl) W0.heap.size 38 i0 _ 2 24 Tryd.underlying36 hi hz0 hz1 hz2 rfl (by omega) (.slice a xs.length c) xs.length (cmts xs) (by rfl) (hP3.own.alloc _) ⟨w3.heap.size, 0, none⟩ 1 1 [.string ⟨(noteTx l p).toArray⟩, .int .i64 (aboveM l p)] (by rfl) (by rfl) (World.news_of_block (cs := #[.string ⟨(noteTx l p).toArray⟩, .int .i64 (aboveM l p)]) (t := 38) (fr := (0, 0)) (heap_alloc_new w3 _)) (by simp [Value.oneCell']) (by omega) hn1 hn2 (Nat.le_trans hP3.only.size (by simp)) (w3.heap.size + 1) (by simp) ?_
          intro gg cap w5 hown5 hgrow5 _ _
          have hF5 := hP3.appended hgrow5
          have hA5 := hP3.appended_only hgrow5
          have f53 := hF5.free 3
          have c53 := hF5.cell 3
          refine hK.out _ _ (⟨hF5.cell 0, hF5.cell 1, c53⟩) (fun hHeld => ?_)
          clear hK K
          try simp only [Act.put, List.setIfInBounds_toArray, List.set_cons_zero, List.set_cons_succ]
          refine wpAnyH_take (i := 29) (v := ?_) rfl (by kernel_rfl) (by kernel_rfl) (by kernel_rfl) (fun _ _ _ h => h) (Or.inl ⟨by rfl, ?_⟩) (by assumption) ?_
          rotate_left
          · intro w hSw; (try dsimp only at hSw); go_simp; (try with_reducible rfl)
          try simp only [Act.put, List.setIfInBounds_toArray, List.set_cons_zero, List.set_cons_succ]
          refine wpAnyH_take (i := 30) (v := ?_) rfl (by kernel_rfl) (by kernel_rfl) (by kernel_rfl) (fun _ _ _ h => h) (Or.inl ⟨by rfl, ?_⟩) (by assumption) ?_
          rotate_left
          · intro w hSw; (try dsimp only at hSw); go_simp; (try with_reducible rfl)
          try simp only [Act.put, List.setIfInBounds_toArray, List.set_cons_zero, List.set_cons_succ]
          refine wpAnyH_done (by kernel_rfl) ?_ _
          show Oper.wp _ _ _ _ _ _
          go_simp
          all_goals
            go_wp2_with fail
            go_meet
            refine ⟨_, PS.stored hA5 hF5 ?_⟩
            rw [List.length_append, cmts_snoc]
            exact hown5
        case rest =>
          obtain ⟨lv', h3⟩ := hcut
          clear c0 c1 c2 c3 c4 hw1 hw2 hw3 hw4 hw5
          obtain ⟨c0, c1, c2, c3, c4⟩ := h3.cells
          have f1 := h3.full.free 1
          have H3 := Lib.hid h3
          clear h3 h2 h2d
          go_wp2_with fail
          go_ret
          exact ⟨rfl, lv', H3.out.go _⟩
end Go.Proofs.YtjnmgmepolpcdaaDoor
