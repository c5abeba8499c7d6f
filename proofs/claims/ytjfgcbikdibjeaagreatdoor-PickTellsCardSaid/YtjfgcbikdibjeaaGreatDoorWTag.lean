/- The walks of core.of, kinds, Tag. -/
import Derived.Test.YtjfgcbikdibjeaaGreatDoorWCore
import Derived.Test.YtjfgcbikdibjeaaGreatDoorLong
import Derived.Laws.EntriesVeiled
namespace Go.Proofs.YtjfgcbikdibjeaaGreatDoor
open Go.RowKit U Go.Proofs

theorem contains_c (xs : List (List UInt8)) (v : Value) (x : List UInt8) (w : World) (hv : Sl w v (strs xs)) (hl : xs.length ≤ 1073741824) :
    Calls Tryz.prog 105 #[v, .string ⟨x.toArray⟩] w fun e w' => e = .returned (.bool (xs.contains x)) ∧ w = w' := by
  obtain ⟨a, c, rfl, hc⟩ := Sl.strs' hv
  by_cases h0 : xs = []
  · subst h0
    refine (Tryz.slices_Contains_string_empty a c ⟨x.toArray⟩ w).mono ?_
    rintro e w' ⟨rfl, rfl⟩
    exact ⟨rfl, rfl⟩
  · obtain ⟨b, off, rfl, _, _⟩ := hc 0 (List.length_pos_iff.2 h0)
    refine (Tryz.slices_Contains_string b off xs.length c (xs.map fun y => ⟨y.toArray⟩) ⟨x.toArray⟩ w (by simp) (by omega) (fun j hj => ?_)).mono ?_
    · have hj2 : j < xs.length := by simpa using hj
      obtain ⟨b2, off2, he, _, hcell⟩ := hc j hj2
      simp only [Option.some.injEq, Addr.mk.injEq, and_true] at he
      obtain ⟨rfl, rfl⟩ := he
      rw [hcell]
      simp [List.getD, hj2]
    · rintro e w' ⟨rfl, rfl⟩
      refine ⟨?_, rfl⟩
      congr 2
      rw [Bool.eq_iff_iff, Lib.containsS_iff, List.take_of_length_le (by simp)]
      simp
def wordVal (l : List UInt8) : Value := .string ⟨l.toArray⟩

theorem assert_ll (v : Value) (w : World) : (Instr.typeAssert (.iface 118 v) 72 118 true).run Tryz.prog w = .ok (.tuple #[v, .bool true]) w := by kernel_rfl
theorem assert_ss (v : Value) (w : World) : (Instr.typeAssert (.iface 120 v) 72 120 true).run Tryz.prog w = .ok (.tuple #[v, .bool true]) w := by kernel_rfl
theorem assert_sl (v : Value) (w : World) : (Instr.typeAssert (.iface 120 v) 72 118 true).run Tryz.prog w = .ok (.tuple #[.agg #[.string ⟨#[]⟩, .slice none 0 0], .bool false]) w := by kernel_rfl

set_option maxRecDepth 100000 in
set_option maxHeartbeats 1000000 in
theorem of_listed (n : List UInt8) (t : Value) (xs : List (List UInt8)) (l : List UInt8) (w : World) (ht : Sl w t (strs xs)) (hl : xs.length ≤ 1073741824) :
    Calls Tryz.prog 61 #[.iface 118 (.agg #[.string ⟨n.toArray⟩, t]), .string ⟨l.toArray⟩] w fun e w' => e = .returned (.bool (xs.contains l)) ∧ Below w.heap.size w w' := by
  obtain ⟨a, m, c, rfl⟩ := ht.form
  have hll := assert_ll
  go_enter Tryz.func61, Tryz.ntmps61
  go_wp2_with fail
  have hb := (Below.refl w.heap.size w).alloc (Nat.le_refl _) (.cells #[.string ⟨n.toArray⟩, .slice a m c] 118)
  refine (contains_c xs _ l _ (ht.below hb) hl).mono ?_
  rintro e w1 ⟨rfl, rfl⟩
  go_wp2_with fail
  go_ret
  exact ⟨ret_bool (by rw [Bool.eq_iff_iff]; simp), hb⟩
set_option maxRecDepth 100000 in
set_option maxHeartbeats 1000000 in
theorem of_int (n : List UInt8) (l : List UInt8) (w : World) (hs : l.length ≤ 1073741824) :
    Calls Tryz.prog 61 #[.iface 120 (.agg #[.string ⟨n.toArray⟩, .func (.func 103) #[] #[]]), .string ⟨l.toArray⟩] w fun e w' => e = .returned (.bool (wholeB l)) ∧ Below w.heap.size w w' := by
  have hss := assert_ss
  have hsl := assert_sl
  go_enter Tryz.func61, Tryz.ntmps61
  go_wp2_with fail
  have hb := ((Below.refl w.heap.size w).alloc (Nat.le_refl _) (.cells #[.string ⟨#[]⟩, .slice none 0 0] 118)).alloc (by simp) (.cells #[.string ⟨n.toArray⟩, .func (.func 103) #[] #[]] 120)
  refine (whole_c l _ hs).mono ?_
  rintro e w1 ⟨rfl, hb1⟩
  have hb := hb.trans (hb1.mono hb.size)
  clear hb1
  go_wp2_with fail
  go_ret
  exact ⟨rfl, hb⟩
set_option maxRecDepth 100000 in
set_option maxHeartbeats 1000000 in
theorem of_flt (n : List UInt8) (l : List UInt8) (w : World) (hs : l.length ≤ 1073741824) :
    Calls Tryz.prog 61 #[.iface 120 (.agg #[.string ⟨n.toArray⟩, .func (.func 104) #[] #[]]), .string ⟨l.toArray⟩] w fun e w' => e = .returned (.bool (floatB l)) ∧ Below w.heap.size w w' := by
  have hss := assert_ss
  have hsl := assert_sl
  go_enter Tryz.func61, Tryz.ntmps61
  go_wp2_with fail
  have hb := ((Below.refl w.heap.size w).alloc (Nat.le_refl _) (.cells #[.string ⟨#[]⟩, .slice none 0 0] 118)).alloc (by simp) (.cells #[.string ⟨n.toArray⟩, .func (.func 104) #[] #[]] 120)
  refine (float_c l _ hs).mono ?_
  rintro e w1 ⟨rfl, hb1⟩
  have hb := hb.trans (hb1.mono hb.size)
  clear hb1
  go_wp2_with fail
  go_ret
  exact ⟨rfl, hb⟩
def kindCells (t1 t2 t3 : Value) : List Value := [.iface 118 (.agg #[.string ⟨#[110, 117, 108, 108]⟩, t1]), .iface 118 (.agg #[.string ⟨#[98, 111, 111, 108]⟩, t2]), .iface 120 (.agg #[.string ⟨#[105, 110, 116]⟩, .func (.func 103) #[] #[]]), .iface 120 (.agg #[.string ⟨#[102, 108, 111, 97, 116]⟩, .func (.func 104) #[] #[]]), .iface 118 (.agg #[.string ⟨#[102, 108, 111, 97, 116]⟩, t3])]
def KindsRet (w : World) (e : Ending) (w' : World) : Prop := ∃ v t1 t2 t3, e = .returned v ∧ Sl w' v (kindCells t1 t2 t3) ∧ Sl w' t1 (strs nulls) ∧ Sl w' t2 (strs bools) ∧ Sl w' t3 (strs nans) ∧ Below w.heap.size w w'
set_option maxRecDepth 100000 in
set_option maxHeartbeats 1000000 in
theorem kinds_c (w : World) : Calls Tryz.prog 60 #[] w (KindsRet w) := by
  go_enter Tryz.func60, Tryz.ntmps60
  go_wp2_with fail
  go_ret
  have h1 := sl_new (w := w) (e := 9) (strs nulls) (by decide)
  have h2 := sl_new (w := w.alloc (.cells (strs nulls).toArray 9)) (e := 9) (strs bools) (by decide)
  have h3 := sl_new (w := (w.alloc (.cells (strs nulls).toArray 9)).alloc (.cells (strs bools).toArray 9)) (e := 9) (strs nans) (by decide)
  have h4 := sl_new (w := ((w.alloc (.cells (strs nulls).toArray 9)).alloc (.cells (strs bools).toArray 9)).alloc (.cells (strs nans).toArray 9)) (e := 72) (kindCells (.slice (some ⟨w.heap.size, 0, none⟩) 5 5) (.slice (some ⟨w.heap.size + 1, 0, none⟩) 6 6) (.slice (some ⟨w.heap.size + 1 + 1, 0, none⟩) 3 3)) (by simp [kindCells])
  have z1 : (w.alloc (.cells (strs nulls).toArray 9)).heap.size = w.heap.size + 1 := by simp
  have z2 : ((w.alloc (.cells (strs nulls).toArray 9)).alloc (.cells (strs bools).toArray 9)).heap.size = w.heap.size + 1 + 1 := by simp
  have z3 : (((w.alloc (.cells (strs nulls).toArray 9)).alloc (.cells (strs bools).toArray 9)).alloc (.cells (strs nans).toArray 9)).heap.size = w.heap.size + 1 + 1 + 1 := by simp
  rw [z1] at h2
  rw [z2] at h3
  rw [z3] at h4
  have b1 := fun (W : World) (o : Obj) => (Below.refl W.heap.size W).alloc (Nat.le_refl _) o
  exact ⟨_, _, _, _, rfl, h4, ((h1.below (b1 _ _)).below (b1 _ _)).below (b1 _ _), (h2.below (b1 _ _)).below (b1 _ _), h3.below (b1 _ _),
    ((((Below.refl _ _).alloc (Nat.le_refl _) _).alloc (by simp) _).alloc (by simp; omega) _).alloc (by simp; omega) _⟩
theorem word_l (n : List UInt8) (t : Value) (w : World) : Calls Tryz.prog 211 #[.agg #[.string ⟨n.toArray⟩, t]] w fun e w' => e = .returned (.string ⟨n.toArray⟩) ∧ Below w.heap.size w w' := by
  go_enter Tryz.func211, Tryz.ntmps211
  go_wp2_with fail
  go_ret
  exact ⟨rfl, (Below.refl _ _).alloc (Nat.le_refl _) _⟩
theorem word_s (n : List UInt8) (t : Value) (w : World) : Calls Tryz.prog 212 #[.agg #[.string ⟨n.toArray⟩, t]] w fun e w' => e = .returned (.string ⟨n.toArray⟩) ∧ Below w.heap.size w w' := by
  go_enter Tryz.func212, Tryz.ntmps212
  go_wp2_with fail
  go_ret
  exact ⟨rfl, (Below.refl _ _).alloc (Nat.le_refl _) _⟩
theorem coreLong_c (l : List UInt8) (w : World) (hs : l.length ≤ 1073741824) : Calls Tryz.prog 26 #[.string ⟨l.toArray⟩] w fun e w' => e = .returned (.string ⟨(longOf l).toArray⟩) ∧ w = w' := by
  go_enter Tryz.func26, Tryz.ntmps26
  go_wp2_with fail
  go_ret
  exact ⟨ret_str rfl, rfl⟩
/-- Is it the k-th kind? -/
def kindB (l : List UInt8) (k : Nat) : Bool := if k = 0 then nulls.contains l else if k = 1 then bools.contains l else if k = 2 then wholeB l else if k = 3 then floatB l else nans.contains l
def kindW (k : Nat) : List UInt8 := if k = 0 then wNull else if k = 1 then wBool else if k = 2 then wInt else wFloat
theorem kindB_next {l : List UInt8} {k : Nat} (h : ∀ j, j < k → kindB l j = false) (hk : kindB l k = false) : ∀ j, j < k + 1 → kindB l j = false := by
  intro j hj
  by_cases hjk : j = k
  · rw [hjk, hk]
  · exact h j (by omega)
theorem coreP_at (l : List UInt8) (k : Nat) (hk5 : k < 5) (h : ∀ j, j < k → kindB l j = false) (hk : kindB l k = true) : coreP l = kindW k := by
  have hc : k = 0 ∨ k = 1 ∨ k = 2 ∨ k = 3 ∨ k = 4 := by omega
  have e0 : kindB l 0 = nulls.contains l := rfl
  have e1 : kindB l 1 = bools.contains l := rfl
  have e2 : kindB l 2 = wholeB l := rfl
  have e3 : kindB l 3 = floatB l := rfl
  have e4 : kindB l 4 = nans.contains l := rfl
  unfold coreP
  rw [← e0, ← e1, ← e2, ← e3, ← e4]
  rcases hc with rfl | rfl | rfl | rfl | rfl
  · rw [hk]; rfl
  · rw [h 0 (by omega), hk]; rfl
  · rw [h 0 (by omega), h 1 (by omega), hk]; rfl
  · rw [h 0 (by omega), h 1 (by omega), h 2 (by omega), hk]; rfl
  · rw [h 0 (by omega), h 1 (by omega), h 2 (by omega), h 3 (by omega), hk]; rfl
theorem coreP_end (l : List UInt8) (h : ∀ j, j < 5 → kindB l j = false) : coreP l = wStr := by
  have e0 : kindB l 0 = nulls.contains l := rfl
  have e1 : kindB l 1 = bools.contains l := rfl
  have e2 : kindB l 2 = wholeB l := rfl
  have e3 : kindB l 3 = floatB l := rfl
  have e4 : kindB l 4 = nans.contains l := rfl
  unfold coreP
  rw [← e0, ← e1, ← e2, ← e3, ← e4, h 0 (by omega), h 1 (by omega), h 2 (by omega), h 3 (by omega), h 4 (by omega)]
  rfl
theorem meth_l (v : Value) (w : World) : (method 207 118 v "bosket/core.word").run Tryz.prog w = .ok (211, v) w := by kernel_rfl
theorem meth_s (v : Value) (w : World) : (method 207 120 v "bosket/core.word").run Tryz.prog w = .ok (212, v) w := by kernel_rfl
set_option maxRecDepth 100000 in
set_option maxHeartbeats 1000000 in
theorem tag_c (l : List UInt8) (w : World) (hs : l.length ≤ 1073741824) :
    Calls Tryz.prog 25 #[.string ⟨l.toArray⟩] w fun e w' => e = .returned (.string ⟨(longOf (coreP l)).toArray⟩) ∧ Below w.heap.size w w' := by
  go_enter Tryz.func25, Tryz.ntmps25
  go_wp2_with fail
  refine (kinds_c _).mono ?_
  rintro e w1 ⟨v, t1, t2, t3, rfl, hv, h1, h2, h3, hb⟩
  obtain ⟨b, off, c, _, hv2, hlt, hcell⟩ : ∃ b off c, kindCells t1 t2 t3 ≠ [] ∧ v = .slice (some ⟨b, off, none⟩) (kindCells t1 t2 t3).length c ∧ b < w1.heap.size ∧ ∀ i x, (kindCells t1 t2 t3)[i]? = some x → w1.cell? ⟨b, off + i, none⟩ = some x := by
    rcases hv with ⟨h, _⟩ | h
    · simp [kindCells] at h
    · exact h
  subst hv2
  have c0 := hcell 0 _ rfl
  rw [Nat.add_zero] at c0
  have c1 := hcell 1 _ rfl
  have c2 := hcell 2 _ rfl
  have c3 := hcell 3 _ rfl
  have c4 := hcell 4 _ rfl
  clear hcell
  rw [show (kindCells t1 t2 t3).length = 5 from rfl]
  go_wp2_with fail
  have hml := meth_l
  have hms := meth_s
  go_loopw [4, 7] (fun _ i wr => ∃ k : Nat, k ≤ 5 ∧ i = .int .i64 k ∧ Below w1.heap.size w1 wr ∧ Hid (∀ j, j < k → kindB l j = false)) (fun _ i _ => 5 - (intOf i).toNat)
  case atStart => exact ⟨0, by omega, rfl, Below.refl _ _, Lib.hid (fun j hj => absurd hj (by omega))⟩
  case round =>
    obtain ⟨k, hk, rfl, hbw, hK⟩ := hrel
    have hk5 : k = 0 ∨ k = 1 ∨ k = 2 ∨ k = 3 ∨ k = 4 ∨ k = 5 := by omega
    have d0 := (hbw.cell (p := ⟨b, off, none⟩) hlt).trans c0
    have d1 := (hbw.cell (p := ⟨b, off + 1, none⟩) hlt).trans c1
    have d2 := (hbw.cell (p := ⟨b, off + 2, none⟩) hlt).trans c2
    have d3 := (hbw.cell (p := ⟨b, off + 3, none⟩) hlt).trans c3
    have d4 := (hbw.cell (p := ⟨b, off + 4, none⟩) hlt).trans c4
    clear c0 c1 c2 c3 c4
    rcases hk5 with rfl | rfl | rfl | rfl | rfl | rfl
    · clear d1 d2 d3 d4
      go_wp2_with fail
      refine (of_listed [110, 117, 108, 108] t1 nulls l _ (h1.below hbw) (by decide)).mono ?_
      rintro e w2 ⟨rfl, hb2⟩
      have hbw := hbw.trans (hb2.mono hbw.size)
      clear hb2 d0
      have hkq : kindB l 0 = nulls.contains l := rfl
      cases hq : nulls.contains l with
      | true =>
        have hC : Hid (coreP l = kindW 0) := Lib.hid (coreP_at l 0 (by omega) hK.out (hkq.trans hq))
        clear hq hkq
        go_wp2_with fail
        refine (word_l [110, 117, 108, 108] _ _).mono ?_
        rintro e w3 ⟨rfl, hb3⟩
        have hbw := hbw.trans (hb3.mono hbw.size)
        clear hb3
        go_wp2_with fail
        refine (coreLong_c [110, 117, 108, 108] _ (by decide)).mono ?_
        rintro e w4 ⟨rfl, rfl⟩
        go_wp2_with fail
        go_ret
        exact ⟨ret_str (by rw [hC.out]; rfl), hb.trans (hbw.mono hb.size)⟩
      | false =>
        have hN := kindB_next hK.out (hkq.trans hq)
        have HN := Lib.hid hN
        clear hN hkq hq
        go_wp2_with fail
        exact ⟨⟨1, by omega, rfl, hbw, HN⟩, by simp [intOf]⟩
    · clear d0 d2 d3 d4
      go_wp2_with fail
      refine (of_listed [98, 111, 111, 108] t2 bools l _ (h2.below hbw) (by decide)).mono ?_
      rintro e w2 ⟨rfl, hb2⟩
      have hbw := hbw.trans (hb2.mono hbw.size)
      clear hb2 d1
      have hkq : kindB l 1 = bools.contains l := rfl
      cases hq : bools.contains l with
      | true =>
        have hC : Hid (coreP l = kindW 1) := Lib.hid (coreP_at l 1 (by omega) hK.out (hkq.trans hq))
        clear hq hkq
        go_wp2_with fail
        refine (word_l [98, 111, 111, 108] _ _).mono ?_
        rintro e w3 ⟨rfl, hb3⟩
        have hbw := hbw.trans (hb3.mono hbw.size)
        clear hb3
        go_wp2_with fail
        refine (coreLong_c [98, 111, 111, 108] _ (by decide)).mono ?_
        rintro e w4 ⟨rfl, rfl⟩
        go_wp2_with fail
        go_ret
        exact ⟨ret_str (by rw [hC.out]; rfl), hb.trans (hbw.mono hb.size)⟩
      | false =>
        have hN := kindB_next hK.out (hkq.trans hq)
        have HN := Lib.hid hN
        clear hN hkq hq
        go_wp2_with fail
        exact ⟨⟨2, by omega, rfl, hbw, HN⟩, by simp [intOf]⟩
    · clear d0 d1 d3 d4
      go_wp2_with fail
      refine (of_int [105, 110, 116] l _ hs).mono ?_
      rintro e w2 ⟨rfl, hb2⟩
      have hbw := hbw.trans (hb2.mono hbw.size)
      clear hb2 d2
      have hkq : kindB l 2 = wholeB l := rfl
      cases hq : wholeB l with
      | true =>
        have hC : Hid (coreP l = kindW 2) := Lib.hid (coreP_at l 2 (by omega) hK.out (hkq.trans hq))
        clear hq hkq
        go_wp2_with fail
        refine (word_s [105, 110, 116] _ _).mono ?_
        rintro e w3 ⟨rfl, hb3⟩
        have hbw := hbw.trans (hb3.mono hbw.size)
        clear hb3
        go_wp2_with fail
        refine (coreLong_c [105, 110, 116] _ (by decide)).mono ?_
        rintro e w4 ⟨rfl, rfl⟩
        go_wp2_with fail
        go_ret
        exact ⟨ret_str (by rw [hC.out]; rfl), hb.trans (hbw.mono hb.size)⟩
      | false =>
        have hN := kindB_next hK.out (hkq.trans hq)
        have HN := Lib.hid hN
        clear hN hkq hq
        go_wp2_with fail
        exact ⟨⟨3, by omega, rfl, hbw, HN⟩, by simp [intOf]⟩
    · clear d0 d1 d2 d4
      go_wp2_with fail
      refine (of_flt [102, 108, 111, 97, 116] l _ hs).mono ?_
      rintro e w2 ⟨rfl, hb2⟩
      have hbw := hbw.trans (hb2.mono hbw.size)
      clear hb2 d3
      have hkq : kindB l 3 = floatB l := rfl
      cases hq : floatB l with
      | true =>
        have hC : Hid (coreP l = kindW 3) := Lib.hid (coreP_at l 3 (by omega) hK.out (hkq.trans hq))
        clear hq hkq
        go_wp2_with fail
        refine (word_s [102, 108, 111, 97, 116] _ _).mono ?_
        rintro e w3 ⟨rfl, hb3⟩
        have hbw := hbw.trans (hb3.mono hbw.size)
        clear hb3
        go_wp2_with fail
        refine (coreLong_c [102, 108, 111, 97, 116] _ (by decide)).mono ?_
        rintro e w4 ⟨rfl, rfl⟩
        go_wp2_with fail
        go_ret
        exact ⟨ret_str (by rw [hC.out]; rfl), hb.trans (hbw.mono hb.size)⟩
      | false =>
        have hN := kindB_next hK.out (hkq.trans hq)
        have HN := Lib.hid hN
        clear hN hkq hq
        go_wp2_with fail
        exact ⟨⟨4, by omega, rfl, hbw, HN⟩, by simp [intOf]⟩
    · clear d0 d1 d2 d3
      go_wp2_with fail
      refine (of_listed [102, 108, 111, 97, 116] t3 nans l _ (h3.below hbw) (by decide)).mono ?_
      rintro e w2 ⟨rfl, hb2⟩
      have hbw := hbw.trans (hb2.mono hbw.size)
      clear hb2 d4
      have hkq : kindB l 4 = nans.contains l := rfl
      cases hq : nans.contains l with
      | true =>
        have hC : Hid (coreP l = kindW 4) := Lib.hid (coreP_at l 4 (by omega) hK.out (hkq.trans hq))
        clear hq hkq
        go_wp2_with fail
        refine (word_l [102, 108, 111, 97, 116] _ _).mono ?_
        rintro e w3 ⟨rfl, hb3⟩
        have hbw := hbw.trans (hb3.mono hbw.size)
        clear hb3
        go_wp2_with fail
        refine (coreLong_c [102, 108, 111, 97, 116] _ (by decide)).mono ?_
        rintro e w4 ⟨rfl, rfl⟩
        go_wp2_with fail
        go_ret
        exact ⟨ret_str (by rw [hC.out]; rfl), hb.trans (hbw.mono hb.size)⟩
      | false =>
        have hN := kindB_next hK.out (hkq.trans hq)
        have HN := Lib.hid hN
        clear hN hkq hq
        go_wp2_with fail
        exact ⟨⟨5, by omega, rfl, hbw, HN⟩, by simp [intOf]⟩
    · clear d0 d1 d2 d3 d4
      have hC : Hid (coreP l = wStr) := Lib.hid (coreP_end l hK.out)
      go_wp2_with fail
      refine (coreLong_c [115, 116, 114] _ (by decide)).mono ?_
      rintro e w4 ⟨rfl, rfl⟩
      go_wp2_with fail
      go_ret
      exact ⟨ret_str (by rw [hC.out]; rfl), hb.trans (hbw.mono hb.size)⟩
end Go.Proofs.YtjfgcbikdibjeaaGreatDoor
