/- The walk of bosketlaw1.UtfsJoins. -/
import Derived.Test.YtipcfdebbjfecaaDoorLawUtfsWhole
import Derived.Test.YtipcfdebbjfecaaDoorLong
namespace Go.Proofs.YtipcfdebbjfecaaDoor
open Go.RowKit U Go.Proofs

theorem long2 (n : Int) (a b : List UInt8) : long n [a, b] = (decide (n ≤ a.length) || decide (n - a.length - 1 ≤ b.length)) := by
  by_cases h1 : n ≤ a.length <;> by_cases h2 : n - a.length - 1 ≤ b.length <;> simp [long, h1, h2]

theorem own_below {B : Nat} {e : TypeId} {k : Nat} {v : Value} {n : Nat} {xs : List Value} {w w' : World} (h : w.ownsRow B e k v n xs) (hb : Below w.heap.size w w') : w'.ownsRow B e k v n xs :=
  h.kept (row := none) ⟨hb.os, hb.tape, hb.output, hb.size, fun j hj _ => hb.block j hj⟩ (by cases hv : v.ownBlock <;> simp)

set_option maxRecDepth 100000 in
set_option maxHeartbeats 1000000 in
theorem utfsJoins_main (a b : List UInt8) (w : World) (hE : Env w) (hp : place a = -1) (hlg : long 200 [a, b] = false) (p : Int) (hpb : (0 ≤ place b ∧ p = place b + a.length) ∨ (place b < 0 ∧ p = place b)) :
    Calls Tryd.prog 6 #[.string ⟨a.toArray⟩, .string ⟨b.toArray⟩] w fun e w' => e = .returned (.bool true) ∧ Below w.heap.size w w' := by
  have hA := At.refl hE
  have hA1 := hA.alloc (.cells #[.string ⟨a.toArray⟩, .string ⟨b.toArray⟩] 9)
  have hsl := sl_new (w := w) (e := 9) (strs [a, b]) (by simp [strs])
  obtain ⟨i0, hi, hz0, hz1, hz2⟩ := info_parts Tryd.infoI32
  have hl2 := hlg
  rw [long2] at hl2
  simp only [Bool.or_eq_false_iff, decide_eq_false_iff_not] at hl2
  obtain ⟨hn1, hn2⟩ := hl2
  have HL := Lib.hid hlg
  clear hlg
  have hwid := width_append b hp
  have hrun := runes_append b hp
  have hpl := place_append b hp
  have hpg := place_ge b
  have hrl1 : (runes a).length ≤ a.length := by rw [runes_length]; exact width_le a
  have hrl2 : (runes b).length ≤ b.length := by rw [runes_length]; exact width_le b
  have hab : (a ++ b).length = a.length + b.length := List.length_append
  have hpl2 : place (a ++ b) = p := by
    rw [hpl]
    rcases hpb with ⟨h1, h2⟩ | ⟨h1, h2⟩
    · rw [if_pos h1, h2]
    · rw [if_neg (by omega), h2]
  have hwb : ((width (a ++ b) : Int) == (width a : Int) + (width b : Int)) = true := by rw [hwid]; simp
  clear hwid
  have hwa1 := width_le a
  have hwa2 := width_le b
  have HR := Lib.hid hrun
  have HAB := Lib.hid hab
  have HP2 := Lib.hid hpl2
  clear hpl hrun hab hpl2
  have hble := place_le b
  rcases hpb with ⟨hp0, hpp⟩ | ⟨hp0, hpp⟩
  · have HPP := Lib.hid hpp
    clear hpp
    go_enter Tryd.func6, Tryd.ntmps6
    go_wp2_with fail
    refine (long_c 200 [a, b] _ _ hsl (by omega) (by omega) (by simp) (by intro x hx; simp at hx; rcases hx with rfl | rfl <;> omega)).mono ?_
    rw [HL.out]
    rintro e w1 ⟨rfl, rfl⟩
    go_wp2_with fail
    refine (place_c a _ hA1.env (by omega)).mono ?_
    rintro e w1 ⟨rfl, hb⟩
    have hA := hA1.step hb
    clear hb hsl hA1
    go_wp2_with fail
    refine (place_c b _ hA.env (by omega)).mono ?_
    rintro e w1 ⟨rfl, hb⟩
    have hA := hA.step hb
    clear hb
    go_wp2_with fail
    refine (width_c (a ++ b) _ (by have := HAB.out; omega)).mono ?_
    rintro e w1 ⟨rfl, hb⟩
    have hA := hA.step hb
    clear hb
    go_wp2_with fail
    refine (width_c a _ (by omega)).mono ?_
    rintro e w1 ⟨rfl, hb⟩
    have hA := hA.step hb
    clear hb
    go_wp2_with fail
    refine (width_c b _ (by omega)).mono ?_
    rintro e w1 ⟨rfl, hb⟩
    have hA := hA.step hb
    clear hb
    go_wp2_with fail
    refine (place_c (a ++ b) _ hA.env (by have := HAB.out; omega)).mono ?_
    rw [HP2.out, HPP.out]
    rintro e w1 ⟨rfl, hb⟩
    have hA := hA.step hb
    clear hb
    go_wp2_with fail
    refine (runes_c (a ++ b) _ (by have := HAB.out; omega)).mono ?_
    rw [HR.out]
    rintro e w2 ⟨a2, c2, rfl, hown2, hb⟩
    have hA := hA.step hb
    have hs2 := Sl.own hown2
    have hA2 := hA
    clear hb
    go_wp2_with fail
    refine (runes_c a _ (by omega)).mono ?_
    rintro e w3 ⟨a3, c3, rfl, hown3, hb3⟩
    have hA := hA.step hb3
    go_wp2_with fail
    refine (runes_c b _ (by omega)).mono ?_
    rintro e w4 ⟨a4, c4, rfl, hown4, hb4⟩
    have hA := hA.step hb4
    have hs4 := Sl.own hown4
    have hown3 := own_below hown3 hb4
    have hb24 : Below w2.heap.size w2 w4 := hb3.trans (hb4.mono hb3.size)
    have hsz24 := hb24.size
    have hc3 : (i32s (runes a)).length + (i32s (runes b)).length ≤ maxLen := by rw [i32s_length, i32s_length]; unfold maxLen; omega
    have hc4 : ((i32s (runes a)).length + (i32s (runes b)).length) * 4 ≤ 140737488355328 := by rw [i32s_length, i32s_length]; omega
    clear hb3 hb4 hown2 hown4
    go_wp2_with (at_builtin; refine wpList_unguard (by rfl) ?_; refine wpList_append_sl rfl _ _ 25 rfl w2.heap.size 21 i0 (.int .i32 0) 4 Tryd.underlying25 hi hz0 hz1 hz2 rfl (.slice a3 (i32s (runes a)).length c3) _ _ _ _ rfl hown3 rfl hs4 (i32s_one (runes b)) hc3 hc4 hb24 hsz24 ?_; intro v5 w5 hown5 hbw5 hgr5)
    have hA := hA2.step hbw5
    have hs2 := hs2.below hbw5
    have hs5 : Sl w5 v5 (i32s (runes a ++ runes b)) := by
      have := Sl.own hown5
      simpa [i32s] using this
    refine (eqRunes_c _ _ _ _ _ hs2 hs5 (by rw [List.length_append]; omega) (by rw [List.length_append]; omega)).mono ?_
    rintro e w6 ⟨rfl, hb⟩
    have hA := hA.step hb
    clear hb hs2 hs5 hs4 hown5 hown3
    go_wp2_with fail
    refine (awake1_c _ hA.env).mono ?_
    rintro e w7 ⟨rfl, hb⟩
    have hA := hA.step hb
    clear hb
    go_wp2_with fail
    go_ret
    exact ⟨rfl, hA.below⟩
  · have HPP := Lib.hid hpp
    clear hpp
    go_enter Tryd.func6, Tryd.ntmps6
    go_wp2_with fail
    refine (long_c 200 [a, b] _ _ hsl (by omega) (by omega) (by simp) (by intro x hx; simp at hx; rcases hx with rfl | rfl <;> omega)).mono ?_
    rw [HL.out]
    rintro e w1 ⟨rfl, rfl⟩
    go_wp2_with fail
    refine (place_c a _ hA1.env (by omega)).mono ?_
    rintro e w1 ⟨rfl, hb⟩
    have hA := hA1.step hb
    clear hb hsl hA1
    go_wp2_with fail
    refine (place_c b _ hA.env (by omega)).mono ?_
    rintro e w1 ⟨rfl, hb⟩
    have hA := hA.step hb
    clear hb
    go_wp2_with fail
    refine (width_c (a ++ b) _ (by have := HAB.out; omega)).mono ?_
    rintro e w1 ⟨rfl, hb⟩
    have hA := hA.step hb
    clear hb
    go_wp2_with fail
    refine (width_c a _ (by omega)).mono ?_
    rintro e w1 ⟨rfl, hb⟩
    have hA := hA.step hb
    clear hb
    go_wp2_with fail
    refine (width_c b _ (by omega)).mono ?_
    rintro e w1 ⟨rfl, hb⟩
    have hA := hA.step hb
    clear hb
    go_wp2_with fail
    refine (place_c (a ++ b) _ hA.env (by have := HAB.out; omega)).mono ?_
    rw [HP2.out, HPP.out]
    rintro e w1 ⟨rfl, hb⟩
    have hA := hA.step hb
    clear hb
    go_wp2_with fail
    refine (runes_c (a ++ b) _ (by have := HAB.out; omega)).mono ?_
    rw [HR.out]
    rintro e w2 ⟨a2, c2, rfl, hown2, hb⟩
    have hA := hA.step hb
    have hs2 := Sl.own hown2
    have hA2 := hA
    clear hb
    go_wp2_with fail
    refine (runes_c a _ (by omega)).mono ?_
    rintro e w3 ⟨a3, c3, rfl, hown3, hb3⟩
    have hA := hA.step hb3
    go_wp2_with fail
    refine (runes_c b _ (by omega)).mono ?_
    rintro e w4 ⟨a4, c4, rfl, hown4, hb4⟩
    have hA := hA.step hb4
    have hs4 := Sl.own hown4
    have hown3 := own_below hown3 hb4
    have hb24 : Below w2.heap.size w2 w4 := hb3.trans (hb4.mono hb3.size)
    have hsz24 := hb24.size
    have hc3 : (i32s (runes a)).length + (i32s (runes b)).length ≤ maxLen := by rw [i32s_length, i32s_length]; unfold maxLen; omega
    have hc4 : ((i32s (runes a)).length + (i32s (runes b)).length) * 4 ≤ 140737488355328 := by rw [i32s_length, i32s_length]; omega
    clear hb3 hb4 hown2 hown4
    go_wp2_with (at_builtin; refine wpList_unguard (by rfl) ?_; refine wpList_append_sl rfl _ _ 25 rfl w2.heap.size 21 i0 (.int .i32 0) 4 Tryd.underlying25 hi hz0 hz1 hz2 rfl (.slice a3 (i32s (runes a)).length c3) _ _ _ _ rfl hown3 rfl hs4 (i32s_one (runes b)) hc3 hc4 hb24 hsz24 ?_; intro v5 w5 hown5 hbw5 hgr5)
    have hA := hA2.step hbw5
    have hs2 := hs2.below hbw5
    have hs5 : Sl w5 v5 (i32s (runes a ++ runes b)) := by
      have := Sl.own hown5
      simpa [i32s] using this
    refine (eqRunes_c _ _ _ _ _ hs2 hs5 (by rw [List.length_append]; omega) (by rw [List.length_append]; omega)).mono ?_
    rintro e w6 ⟨rfl, hb⟩
    have hA := hA.step hb
    clear hb hs2 hs5 hs4 hown5 hown3
    go_wp2_with fail
    refine (awake1_c _ hA.env).mono ?_
    rintro e w7 ⟨rfl, hb⟩
    have hA := hA.step hb
    clear hb
    go_wp2_with fail
    go_ret
    exact ⟨rfl, hA.below⟩

set_option maxRecDepth 100000 in
set_option maxHeartbeats 1000000 in
theorem utfsJoins_c (a b : List UInt8) (w : World) (hE : Env w) (hs : a.length ≤ 9223372036854775807) (ht : b.length ≤ 9223372036854775807) :
    Calls Tryd.prog 6 #[.string ⟨a.toArray⟩, .string ⟨b.toArray⟩] w fun e w' => e = .returned (.bool true) ∧ Below w.heap.size w w' := by
  have hA := At.refl hE
  have hA1 := hA.alloc (.cells #[.string ⟨a.toArray⟩, .string ⟨b.toArray⟩] 9)
  have hsl := sl_new (w := w) (e := 9) (strs [a, b]) (by simp [strs])
  cases hlg : long 200 [a, b] with
  | true =>
    have HL := Lib.hid hlg
    clear hlg
    go_enter Tryd.func6, Tryd.ntmps6
    go_wp2_with fail
    refine (long_c 200 [a, b] _ _ hsl (by omega) (by omega) (by simp) (by intro x hx; simp at hx; rcases hx with rfl | rfl <;> assumption)).mono ?_
    rw [HL.out]
    rintro e w1 ⟨rfl, rfl⟩
    go_wp2_with fail
    refine (awake1_c _ hA1.env).mono ?_
    rintro e w1 ⟨rfl, hb⟩
    have hA := hA1.step hb
    clear hb
    go_wp2_with fail
    go_ret
    exact ⟨rfl, hA.below⟩
  | false =>
    have hl2 := hlg
    rw [long2] at hl2
    simp only [Bool.or_eq_false_iff, decide_eq_false_iff_not] at hl2
    obtain ⟨hn1, hn2⟩ := hl2
    have HL := Lib.hid hlg
    clear hlg
    by_cases hp : place a = -1
    · have hg := place_ge b
      by_cases h0 : 0 ≤ place b
      · exact utfsJoins_main a b w hE hp HL.out _ (Or.inl ⟨h0, rfl⟩)
      · exact utfsJoins_main a b w hE hp HL.out _ (Or.inr ⟨by omega, rfl⟩)
    · have hp2 : (place a != -1) = true := by simpa using hp
      clear hp
      go_enter Tryd.func6, Tryd.ntmps6
      go_wp2_with fail
      refine (long_c 200 [a, b] _ _ hsl (by omega) (by omega) (by simp) (by intro x hx; simp at hx; rcases hx with rfl | rfl <;> assumption)).mono ?_
      rw [HL.out]
      rintro e w1 ⟨rfl, rfl⟩
      go_wp2_with fail
      refine (place_c a _ hA1.env (by omega)).mono ?_
      rintro e w1 ⟨rfl, hb⟩
      have hA := hA1.step hb
      clear hb
      go_wp2_with fail
      refine (awake1_c _ hA.env).mono ?_
      rintro e w1 ⟨rfl, hb⟩
      have hA := hA.step hb
      clear hb
      go_wp2_with fail
      go_ret
      exact ⟨rfl, hA.below⟩
end Go.Proofs.YtipcfdebbjfecaaDoor
