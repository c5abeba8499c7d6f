/- The walk of bosketlaw13.same. -/
import Derived.Test.YtobojdkloblfbaaDoorLawBloc0
import Derived.Test.YtobojdkloblfbaaDoorWRefBlock
namespace Go.Proofs.YtobojdkloblfbaaDoor
open Go.RowKit U Go.Proofs

theorem rblock_c (l : List UInt8) (a n : Int) (w : World) (hs : l.length ≤ 900000) (hn1 : -9223372036854775808 ≤ n) (hn2 : n ≤ 9223372036854775807) :
    Calls Tryd.prog 59 #[.string ⟨l.toArray⟩, .int .i64 a, .int .i64 n] w (BlRet w (blocM l a n).1 (blocM l a n).2.1 (blocM l a n).2.2) := by
  cases h : startB l a with
  | false =>
    have e : blocM l a n = (.zero, a, 5) := by unfold blocM; rw [if_neg (by rw [h]; decide)]
    rw [e]
    exact rblock_no l a n w (by omega) h
  | true =>
    obtain ⟨h1, h2, h3⟩ := of_decide_eq_true h
    have e : blocM l a n = blocOf l a.toNat n := by unfold blocM; rw [if_pos h]
    rw [e]
    obtain ⟨p, rfl⟩ : ∃ p : Nat, a = p := ⟨a.toNat, by omega⟩
    rw [Int.toNat_natCast] at h3 ⊢
    exact rblock_yes l p n w hs (by omega) h3 hn1 hn2
set_option maxRecDepth 100000 in
set_option maxHeartbeats 1000000 in
theorem comments_nil (w : World) : Calls Tryd.prog 89 #[.slice none 0 0, .slice none 0 0] w fun e w' => e = .returned (.bool true) ∧ w = w' := by
  go_enter Tryd.func89, Tryd.ntmps89
  go_wp2_with fail
  go_loop [5] (fun x => x = .int .i64 0) (fun _ => 0)
  case atStart => rfl
  case round =>
    subst hrel
    go_wp2_with fail
    go_ret
    exact ⟨rfl, rfl⟩
set_option maxRecDepth 100000 in
set_option maxHeartbeats 8000000 in
theorem nodes_c (x : BN) (w : World) :
    Calls Tryd.prog 60 #[.agg (bnCells x).toArray, .agg (bnCells x).toArray] w fun e w' => e = .returned (.bool true) ∧ Below w.heap.size w w' := by
  obtain ⟨k, s, a, has, tr, tx⟩ := x
  have h1 := node_new w ⟨k, s, a, has, tr, tx⟩
  have hb := ((Below.refl w.heap.size w).alloc (o := .cells (bnCells ⟨k, s, a, has, tr, tx⟩).toArray 52) (Nat.le_refl _)).alloc (o := .cells (bnCells ⟨k, s, a, has, tr, tx⟩).toArray 52) (by simp)
  have h2 := node_new (w.alloc (.cells (bnCells ⟨k, s, a, has, tr, tx⟩).toArray 52)) ⟨k, s, a, has, tr, tx⟩
  have hs1 : (w.alloc (.cells (bnCells ⟨k, s, a, has, tr, tx⟩).toArray 52)).heap.size = w.heap.size + 1 := by simp
  rw [hs1] at h2
  have h1 := h1.alloc (.cells (bnCells ⟨k, s, a, has, tr, tx⟩).toArray 52)
  have g1 : (tr != tr) = false := by simp
  have g2 : (tx != tx) = false := by simp
  have g3 : (has != has) = false := by cases has <;> rfl
  clear hs1
  go_enter Tryd.func60, Tryd.ntmps60
  go_upto_region 1 with fail
  generalize (w.alloc (.cells (bnCells ⟨k, s, a, has, tr, tx⟩).toArray 52)).alloc (.cells (bnCells ⟨k, s, a, has, tr, tx⟩).toArray 52) = w1 at *
  obtain ⟨c0, c1, c2, c3, c4, c5, c6, c7, c8, c9, c10, c11⟩ := h1.cells12
  obtain ⟨d0, d1, d2, d3, d4, d5, d6, d7, d8, d9, d10, d11⟩ := h2.cells12
  clear h1 h2
  go_wp2_with fail
  refine (comments_nil _).mono ?_
  rintro e w2 ⟨rfl, rfl⟩
  go_wp2_with fail
  refine (comments_nil _).mono ?_
  rintro e w2 ⟨rfl, rfl⟩
  go_wp2_with fail
  go_loop [5] (fun x => x = .int .i64 0) (fun _ => 0)
  case atStart => rfl
  case round =>
    subst hrel
    go_wp2_with fail
    go_ret
    exact ⟨rfl, hb⟩
set_option maxRecDepth 100000 in
set_option maxHeartbeats 8000000 in
theorem same13_c (l : List UInt8) (a n : Int) (w : World) (hs : l.length ≤ 900000) (hn1 : -9223372036854775808 ≤ n) (hn2 : n ≤ 9223372036854775807) :
    Calls Tryd.prog 35 #[.string ⟨l.toArray⟩, .int .i64 a, .int .i64 n] w fun e w' => e = .returned (.bool true) ∧ Below w.heap.size w w' := by
  have h1 := fun w => blread_c l a n w hs hn1 hn2
  have h2 := fun w => rblock_c l a n w hs hn1 hn2
  generalize blocM l a n = X at *
  obtain ⟨x, xp, xe⟩ := X
  simp only [] at h1 h2
  go_enter Tryd.func35, Tryd.ntmps35
  go_wp2_with fail
  refine (h1 _).mono ?_
  rintro e w1 ⟨rfl, hb1⟩
  have hN := node_new w1 x
  have hB1 := hb1.alloc (o := .cells (bnCells x).toArray 52) hb1.size
  have hz : w1.heap.size < (w1.alloc (.cells (bnCells x).toArray 52)).heap.size := by simp
  go_upto_region 2 with fail
  generalize w1.alloc (.cells (bnCells x).toArray 52) = w2 at *
  go_wp2_with fail
  refine (h2 _).mono ?_
  rintro e w3 ⟨rfl, hb3⟩
  have hN2 := node_new w3 x
  have hN3 := (hN.below hb3 hN.lt).alloc (.cells (bnCells x).toArray 52)
  have hB3 := (hB1.trans (hb3.mono hB1.size)).alloc (o := .cells (bnCells x).toArray 52) (Nat.le_trans hB1.size hb3.size)
  go_upto_region 3 with fail
  generalize w3.alloc (.cells (bnCells x).toArray 52) = w4 at *
  obtain ⟨c0, c1, c2, c3, c4, c5, c6, c7, c8, c9, c10, c11⟩ := hN3.cells12
  obtain ⟨d0, d1, d2, d3, d4, d5, d6, d7, d8, d9, d10, d11⟩ := hN2.cells12
  clear h1 h2 hN hN2 hN3 hb1 hb3 hB1
  have hNo := fun w => nodes_c x w
  go_wp2_with fail
  refine (hNo _).mono ?_
  rintro e w5 ⟨rfl, hb5⟩
  go_wp2_with fail
  go_ret
  exact ⟨by simp, hB3.trans (hb5.mono hB3.size)⟩
end Go.Proofs.YtobojdkloblfbaaDoor
