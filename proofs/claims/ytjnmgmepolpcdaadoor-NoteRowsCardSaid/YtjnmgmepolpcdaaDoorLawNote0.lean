/- Statements on what stands between: what their own parts compute. -/
import Derived.Test.YtjnmgmepolpcdaaDoorWWithin
import Derived.Test.YtjnmgmepolpcdaaDoorWLow
namespace Go.Proofs.YtjnmgmepolpcdaaDoor
open Go.RowKit U Go.Proofs

/-- A value that holds comments. -/
def NV (w : World) (v : Value) (xs : Notes) : Prop := ∃ B, w.ownsRow B 38 2 v xs.length (cmts xs)
theorem NV.of {w : World} {B : Nat} {v : Value} {xs : Notes} (h : w.ownsRow B 38 2 v xs.length (cmts xs)) : NV w v xs := ⟨B, h⟩
theorem NV.below {w w' : World} {v : Value} {xs : Notes} (h : NV w v xs) (hb : Below w.heap.size w w') : NV w' v xs := by
  obtain ⟨B, h⟩ := h
  exact ⟨B, h.kept (row := none) ⟨hb.os, hb.tape, hb.output, hb.size, fun k hk _ => hb.block k hk⟩ (by cases hv : v.ownBlock <;> simp)⟩
theorem cmts_length (xs : Notes) : (cmts xs).length = xs.length * 2 := by
  induction xs with
  | nil => rfl
  | cons x xs ih =>
    have e : cmts (x :: xs) = .string ⟨x.1.toArray⟩ :: .int .i64 x.2 :: cmts xs := rfl
    rw [e, List.length_cons, List.length_cons, ih, List.length_cons]; omega
theorem cmts_at (xs : Notes) : ∀ (i : Nat) (h : i < xs.length), (cmts xs)[i * 2]? = some (.string ⟨(xs[i]'h).1.toArray⟩) ∧ (cmts xs)[i * 2 + 1]? = some (.int .i64 (xs[i]'h).2) := by
  induction xs with
  | nil => intro i h; simp at h
  | cons x xs ih =>
    intro i h
    have e : cmts (x :: xs) = .string ⟨x.1.toArray⟩ :: .int .i64 x.2 :: cmts xs := rfl
    rw [e]
    cases i with
    | zero => exact ⟨rfl, rfl⟩
    | succ i =>
      have := ih i (by simpa using h)
      rw [show (i + 1) * 2 = i * 2 + 1 + 1 by omega]
      exact this
theorem NV.cells {w : World} {v : Value} {xs : Notes} (h : NV w v xs) (h0 : 0 < xs.length) : ∃ g cap, v = .slice (some ⟨g, 0, none⟩) xs.length cap ∧ g < w.heap.size ∧ ∀ (i : Nat) (hi : i < xs.length), w.cell? ⟨g, i * 2, none⟩ = some (.string ⟨(xs[i]'hi).1.toArray⟩) ∧ w.cell? ⟨g, i * 2 + 1, none⟩ = some (.int .i64 (xs[i]'hi).2) := by
  obtain ⟨B, h⟩ := h
  obtain ⟨g, cap, rfl, _, hg⟩ := h.form h0
  refine ⟨g, cap, rfl, hg, fun i hi => ?_⟩
  rw [h.cellAt (i * 2) (by omega), h.cellAt (i * 2 + 1) (by omega)]
  exact cmts_at xs i hi
theorem below_drewN {B : Nat} {a w : World} (h : Below B a w) (n : Nat) : Below B a (w.drewN n) := ⟨h.os, h.tape, h.output, h.size, h.block⟩
theorem NV.shape {w : World} {v : Value} {xs : Notes} (h : NV w v xs) : ∃ a c, v = .slice a xs.length c := by
  obtain ⟨B, h⟩ := h
  exact own_shape h
set_option maxRecDepth 100000 in
set_option maxHeartbeats 4000000 in
theorem comments_c (xs : Notes) (va vb : Value) (w : World) (ha : NV w va xs) (hb : NV w vb xs) (hs : xs.length ≤ 1000000) :
    Calls Tryd.prog 29 #[va, vb] w (Quiet w (.bool true)) := by
  unfold Quiet
  by_cases h0 : xs.length = 0
  · obtain ⟨a, c, rfl⟩ := ha.shape
    obtain ⟨b, d, rfl⟩ := hb.shape
    rw [h0]
    clear ha hb h0
    go_enter Tryd.func29, Tryd.ntmps29
    go_wp2_with fail
    go_loop [5] (fun x => x = .int .i64 0) (fun _ => 0)
    case atStart => rfl
    case round =>
      subst hrel
      go_wp2_with fail
      go_ret
      exact ⟨rfl, 0, rfl⟩
  · obtain ⟨ga, ca, rfl, hga, hca⟩ := ha.cells (by omega)
    obtain ⟨gb, cb, rfl, hgb, hcb⟩ := hb.cells (by omega)
    have HA := Lib.hid hca
    have HB := Lib.hid hcb
    clear ha hb h0 hca hcb
    go_enter Tryd.func29, Tryd.ntmps29
    go_wp2_with fail
    go_loopw [5] (fun x wr => ∃ i m : Nat, i ≤ xs.length ∧ x = .int .i64 i ∧ wr = w.drewN m) (fun x _ => xs.length - (intOf x).toNat)
    case atStart => exact ⟨0, 0, Nat.zero_le _, rfl, rfl⟩
    case round =>
      obtain ⟨i, m, hi, rfl, rfl⟩ := hrel
      by_cases hlt : i < xs.length
      · obtain ⟨c0, c1⟩ := HA.out i hlt
        obtain ⟨d0, d1⟩ := HB.out i hlt
        generalize (⟨(xs[i]'hlt).1.toArray⟩ : ByteArray) = tx at *
        generalize ((xs[i]'hlt).2 : Int) = nn at *
        go_upto_region 6 with fail
        go_cut [25] (fun s wx => s = .bool false ∧ ∃ k, wx = w.drewN k)
        case first =>
          go_quiet (fail)
          go_wp2_with fail
          go_meet
          exact ⟨rfl, _, World.drewN_drewN _ _ _⟩
        case rest =>
          obtain ⟨rfl, k, rfl⟩ := hcut
          clear c0 c1 d0 d1
          go_wp2_with fail
          go_round
          case rel => exact ⟨i + 1, k, by omega, by go_num, rfl⟩
          case measure => simp [intOf]; omega
      · go_wp2_with fail
        go_ret
        exact ⟨rfl, _, rfl⟩
set_option maxRecDepth 100000 in
set_option maxHeartbeats 1000000 in
theorem rskip_c (l : List UInt8) (a : Int) (w : World) (hs : l.length ≤ 1000000) :
    Calls Tryd.prog 42 #[.string ⟨l.toArray⟩, .int .i64 a] w (NotesRet (skipM l (heldM l a)) w) := by
  rw [skip_eq (heldM_le l a)]
  have hB := fun w => between_c l a 0 false w hs
  generalize refR l (heldM l a) 0 false (metM l (heldM l a)) (heldM l a) [] false = R at *
  go_enter Tryd.func42, Tryd.ntmps42
  go_wp2_with fail
  refine (hB _).mono ?_
  rintro e w1 ⟨v, rfl, hown, hbl⟩
  go_wp2_with fail
  exact bodyPost_ret (v := .tuple #[v, .bool R.2.1, .int .i64 R.2.2.1, .int .i64 R.2.2.2]) (by simp [results, Tryd.results42, go_sem]) rfl ⟨_, rfl, hown, hbl⟩
set_option maxRecDepth 100000 in
set_option maxHeartbeats 1000000 in
theorem rwithin_c (l : List UInt8) (a n : Int) (w : World) (hs : l.length ≤ 1000000) :
    Calls Tryd.prog 43 #[.string ⟨l.toArray⟩, .int .i64 a, .int .i64 n] w (NotesRet (withinM l (heldM l a) n) w) := by
  rw [within_eq n (heldM_le l a)]
  have hB := fun w => between_c l a n true w hs
  generalize refR l (heldM l a) n true (metM l (heldM l a)) (heldM l a) [] false = R at *
  go_enter Tryd.func43, Tryd.ntmps43
  go_wp2_with fail
  refine (hB _).mono ?_
  rintro e w1 ⟨v, rfl, hown, hbl⟩
  go_wp2_with fail
  exact bodyPost_ret (v := .tuple #[v, .bool R.2.1, .int .i64 R.2.2.1, .int .i64 R.2.2.2]) (by simp [results, Tryd.results43, go_sem]) rfl ⟨_, rfl, hown, hbl⟩
theorem pass_short (l : List UInt8) (b0 : Nat) (row : Nat → Option Nat) (hrow : ∀ p q, row p = some q → p ≤ l.length → q ≤ l.length) : ∀ (f : Nat) (b : Bool) (p : Nat) (acc : Notes) (nr : Bool), p ≤ l.length → acc.length ≤ p → (passF l b0 row f b p acc nr).1.length ≤ l.length := by
  intro f
  induction f with
  | zero => intro b p acc nr hp ha; exact Nat.le_trans ha hp
  | succ f ih =>
    intro b p acc nr hp ha
    cases b with
    | true =>
      rw [passF]
      split
      · exact Nat.le_trans ha hp
      · exact ih false p acc nr hp ha
    | false =>
      rw [passF]
      split
      · exact Nat.le_trans ha hp
      · rename_i hl
        split
        · exact ih _ _ _ _ (by omega) (by omega)
        · split
          · split
            · exact Nat.le_trans ha hp
            · exact ih _ _ _ _ (by omega) (by omega)
          · rename_i h10
            have := note_to (by omega) h10
            split
            · exact ih _ _ _ _ (rowTo_le hp) (by rw [List.length_append]; simp; omega)
            · exact Nat.le_trans ha hp
theorem skip_short {l : List UInt8} {a : Nat} (h : a ≤ l.length) (hs : l.length ≤ 1000000) : (skipM l a).1.length ≤ 1000000 := by
  have := pass_short l a (fun _ => none) (fun _ _ h => by cases h) (need l true a) true a [] false h (Nat.zero_le _)
  unfold skipM
  simp only []
  split
  · exact Nat.zero_le _
  · exact Nat.le_trans this hs
theorem within_short {l : List UInt8} {a : Nat} {n : Int} (h : a ≤ l.length) (hs : l.length ≤ 1000000) : (withinM l a n).1.length ≤ 1000000 := by
  have := pass_short l a (rowW l n) (fun p q hq hp => by
    unfold rowW at hq
    split at hq
    · split at hq
      · cases hq
      · injection hq with hq
        have := run_le whN l p
        omega
    · split at hq
      · injection hq with hq; omega
      · cases hq) (need l true a) true a [] false h (Nat.zero_le _)
  unfold withinM
  simp only []
  split
  · exact Nat.le_trans this hs
  · exact Nat.zero_le _
set_option maxRecDepth 100000 in
set_option maxHeartbeats 4000000 in
theorem same15_c (l : List UInt8) (a n : Int) (w : World) (hs : l.length ≤ 1000000) :
    Calls Tryd.prog 23 #[.string ⟨l.toArray⟩, .int .i64 a, .int .i64 n] w fun e w' => e = .returned (.bool true) ∧ Below w.heap.size w w' := by
  have h1 := fun w => skip_c l a w hs
  have h2 := fun w => rskip_c l a w hs
  have h3 := fun w => within_c l a n w hs
  have h4 := fun w => rwithin_c l a n w hs
  have hl1 : (skipM l (heldM l a)).1.length ≤ 1000000 := skip_short (heldM_le l a) hs
  have hl2 : (withinM l (heldM l a) n).1.length ≤ 1000000 := within_short (heldM_le l a) hs
  generalize skipM l (heldM l a) = R at *
  generalize withinM l (heldM l a) n = S at *
  obtain ⟨xs, b, p, k⟩ := R
  obtain ⟨ys, c, q, m⟩ := S
  go_enter Tryd.func23, Tryd.ntmps23
  go_wp2_with fail
  refine (h1 _).mono ?_
  rintro e w1 ⟨v1, rfl, hown1, hb1⟩
  have hn1 := NV.of hown1
  have hA := hb1
  clear hown1 hb1
  go_wp2_with fail
  refine (h2 _).mono ?_
  rintro e w2 ⟨v2, rfl, hown2, hb2⟩
  have hn2 := NV.of hown2
  have hn1 := hn1.below hb2
  have hA := hA.trans (hb2.mono hA.size)
  clear hown2 hb2
  go_wp2_with fail
  refine (h3 _).mono ?_
  rintro e w3 ⟨v3, rfl, hown3, hb3⟩
  have hn3 := NV.of hown3
  have hn1 := hn1.below hb3
  have hn2 := hn2.below hb3
  have hA := hA.trans (hb3.mono hA.size)
  clear hown3 hb3
  go_wp2_with fail
  refine (h4 _).mono ?_
  rintro e w4 ⟨v4, rfl, hown4, hb4⟩
  have hn4 := NV.of hown4
  have hn1 := hn1.below hb4
  have hn2 := hn2.below hb4
  have hn3 := hn3.below hb4
  have hA := hA.trans (hb4.mono hA.size)
  clear hown4 hb4
  go_wp2_with fail
  refine (comments_c xs _ _ _ hn1 hn2 hl1).mono ?_
  rintro e w5 ⟨rfl, n5, hw5⟩
  have hd5 : Below w4.heap.size w4 w5 := by rw [hw5]; exact below_drewN (Below.refl _ _) n5
  have hn3 := hn3.below hd5
  have hn4 := hn4.below hd5
  have hA := hA.trans (hd5.mono hA.size)
  clear hw5 hd5 hn1 hn2
  go_wp2_with fail
  refine (comments_c ys _ _ _ hn3 hn4 hl2).mono ?_
  rintro e w6 ⟨rfl, n6, hw6⟩
  have hd6 : Below w5.heap.size w5 w6 := by rw [hw6]; exact below_drewN (Below.refl _ _) n6
  have hA := hA.trans (hd6.mono hA.size)
  clear hw6 hd6 hn3 hn4
  go_wp2_with fail
  go_ret
  exact ⟨ret_bool (by simp), hA⟩
end Go.Proofs.YtjnmgmepolpcdaaDoor
