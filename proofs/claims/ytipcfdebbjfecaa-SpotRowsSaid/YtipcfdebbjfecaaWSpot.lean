/- The walks of package spot and of the document's answer of chapter 3. -/
import Derived.Test.YtipcfdebbjfecaaWWidth
import Derived.Test.YtipcfdebbjfecaaPSpot
import Derived.Test.YtipcfdebbjfecaaShelf
namespace Go.Proofs.Ytipcfdebbjfecaa
open Go.RowKit U Go.Proofs

set_option maxRecDepth 100000 in
set_option maxHeartbeats 1000000 in
theorem spotLines_c (l : List UInt8) (w : World) (hs : l.length ≤ 1073741824) :
    Calls Try.prog 11 #[.string ⟨l.toArray⟩] w fun e w' => e = .returned (.int .i64 (lf l + 1 : Nat)) ∧ w = w' := by
  have hlf := lf_le l
  go_enter Try.func11, Try.ntmps11
  go_wp2_with (go_at_call 15; refine (Try.strings_Count_one ⟨l.toArray⟩ 10 _).mono ?_; rw [show Lib.countByte (⟨l.toArray⟩ : ByteArray).data.toList 10 = lf l from rfl]; rintro e w1 ⟨rfl, rfl⟩)
  go_ret
  exact ⟨ret_int (by omega), rfl⟩

set_option maxRecDepth 100000 in
set_option maxHeartbeats 1000000 in
theorem spotAt_c (l : List UInt8) (p : Int) (w : World) (hs : l.length ≤ 1073741824) (hp0 : -9223372036854775808 ≤ p) (hp1 : p ≤ 9223372036854775807) :
    Calls Try.prog 6 #[.string ⟨l.toArray⟩, .int .i64 p] w fun e w' => e = .returned (.tuple #[.int .i64 ((at' l (held l p)).1 : Nat), .int .i64 ((at' l (held l p)).2 : Nat)]) ∧ Below w.heap.size w w' := by
  have hh := held_le l p
  have hn : held l p = (min (max p 0) (l.length : Int)).toNat := rfl
  generalize hP : held l p = n at *
  have HN := Lib.hid hn
  clear hP hn
  have hlf := lf_le (l.take n)
  have htl : (l.take n).length = n := by rw [List.length_take]; omega
  obtain ⟨t1, t2, t3⟩ := tl_last (l.take n)
  have hwd := width_le (tl (l.take n))
  have ht2 : (tl (l.take n)).length ≤ n := by rw [t1, List.length_drop]; omega
  have hat : at' l n = (lf (l.take n) + 1, width (tl (l.take n)) + 1) := rfl
  rw [hat]
  clear hat
  generalize hA : l.take n = a at *
  have HA := Lib.hid hA
  clear hA
  generalize hi : Lib.lastIndexByte ⟨a.toArray⟩ 10 = i at *
  have hi' : Lib.lastIndexByte ⟨a.toArray⟩ ((((⟨#[10]⟩ : ByteArray)[0]'(by decide)).toNat : Nat) : Int) = i := hi
  have HI := Lib.hid hi'
  clear hi hi'
  have HT := Lib.hid t1
  clear t1
  go_enter Try.func6, Try.ntmps6
  go_wp2_with (first | (go_at_call 15; rw [← HN.out, HA.out]; refine (Try.strings_Count_one ⟨a.toArray⟩ 10 _).mono ?_; rw [show Lib.countByte (⟨a.toArray⟩ : ByteArray).data.toList 10 = lf a from rfl]; rintro e w1 ⟨rfl, rfl⟩))
  refine (Try.strings_LastIndex_one ⟨a.toArray⟩ ⟨#[10]⟩ rfl (by rw [size_mk]; omega) _).mono ?_
  rw [HI.out]
  rintro e w2 ⟨rfl, rfl⟩
  go_wp2_with fail
  rw [show (a.drop (i + 1).toNat).take (n - (i + 1).toNat) = tl a from by rw [HT.out, List.take_of_length_le (by rw [List.length_drop]; omega)]]
  refine (width_c (tl a) _ (by omega)).mono ?_
  rintro e w1 ⟨rfl, hb⟩
  go_wp2_with fail
  go_ret2
  exact ⟨ret_ll (by omega) (by omega), hb⟩

set_option maxRecDepth 100000 in
set_option maxHeartbeats 1000000 in
theorem spotBack_c (l : List UInt8) (line col : Int) (w : World) (hs : l.length ≤ 1073741824) :
    Calls Try.prog 8 #[.string ⟨l.toArray⟩, .int .i64 line, .int .i64 col] w fun e w' => e = .returned (.tuple #[.int .i64 (back l line col).1, .bool (back l line col).2]) ∧ Below w.heap.size w w' := by
  go_enter Try.func8, Try.ntmps8
  go_wp2
  go_loopw [8, 9] (fun L C wr => ∃ pos L' C' : Nat, pos ≤ l.length ∧ wr.heap[w.heap.size]? = some (.stringIter ⟨l.toArray⟩ pos) ∧ Below w.heap.size w wr ∧ L = .int .i64 L' ∧ C = .int .i64 C' ∧ Hid (Sp l pos L' C') ∧ Hid (findAt l line col (starts pos l) = back l line col)) (fun _ _ wr => l.length - wr.iterPos w.heap.size)
  case atStart =>
    refine ⟨0, 1, 1, Nat.zero_le _, ?_, (Below.refl _ w).alloc (Nat.le_refl _) _, rfl, rfl, Lib.hid (Sp_zero l), Lib.hid rfl⟩
    exact World.iter_heap w _ 0
  case round =>
    obtain ⟨pos, L, C, hp, hit, hbw, rfl, rfl, HS, HP⟩ := hrel
    have hle := Sp_le HS.out
    have hat := Sp_at HS.out
    by_cases hlt : pos < l.length
    · obtain ⟨r, n, HD, HU, hn1, hn2, hr, hnx, hit2, hbw2, hsz, hsz2⟩ := range_at Try.prog hit hlt hbw (Nat.le_refl _)
      have hst := starts_at hlt (show (dec (l.drop pos)).2 = n by rw [HD.out])
      have hr10 := lf_byte (l.drop pos)
      rw [byt_drop, HD.out, Nat.add_zero] at hr10
      have hd2 : (dec (l.drop pos)).2 = n := by rw [HD.out]
      have HT := Lib.hid hst
      have HR := Lib.hid hr10
      have HD2 := Lib.hid hd2
      have HAT := Lib.hid hat
      clear hst hr10 hat hd2
      by_cases hm : (L : Int) = line
      · by_cases hm2 : (C : Int) = col
        · go_wp2
          go_ret2
          refine ⟨?_, hbw2⟩
          rw [← HP.out, HT.out, findAt_hit l line col _ _ (by rw [HAT.out]; exact hm) (by rw [HAT.out]; exact hm2)]
          all_goals rfl
        · by_cases h10 : r = 10
          · have hn : n = 1 := by
              have := dec_one (l.drop pos) (by rw [byt_drop]; have := HR.out.1 h10; simpa using (by omega : byt l pos < 128))
              rw [HD.out] at this
              exact (Prod.mk.injEq ..▸ this).2
            subst h10 hn
            go_wp2
            refine ⟨⟨pos + 1, L + 1, 1, by omega, hit2, hbw2, by go_num, rfl, Lib.hid (Sp_feed HS.out hlt (HR.out.1 rfl)), Lib.hid ?_⟩, ?_⟩
            · rw [← HP.out, HT.out, findAt_miss l line col _ _ (by rw [HAT.out]; intro h; exact hm2 h.2)]
            · rw [iterPos_of hit, iterPos_of hit2]; omega
          · go_wp2
            refine ⟨⟨pos + n, L, C + 1, by omega, hit2, hbw2, rfl, by go_num, Lib.hid (Sp_on HS.out hlt (fun h => h10 (HR.out.2 h)) HD2.out), Lib.hid ?_⟩, ?_⟩
            · rw [← HP.out, HT.out, findAt_miss l line col _ _ (by rw [HAT.out]; intro h; exact hm2 h.2)]
            · rw [iterPos_of hit, iterPos_of hit2]; omega
      · by_cases h10 : r = 10
        · have hn : n = 1 := by
            have := dec_one (l.drop pos) (by rw [byt_drop]; have := HR.out.1 h10; simpa using (by omega : byt l pos < 128))
            rw [HD.out] at this
            exact (Prod.mk.injEq ..▸ this).2
          subst h10 hn
          go_wp2
          refine ⟨⟨pos + 1, L + 1, 1, by omega, hit2, hbw2, by go_num, rfl, Lib.hid (Sp_feed HS.out hlt (HR.out.1 rfl)), Lib.hid ?_⟩, ?_⟩
          · rw [← HP.out, HT.out, findAt_miss l line col _ _ (by rw [HAT.out]; intro h; exact hm h.1)]
          · rw [iterPos_of hit, iterPos_of hit2]; omega
        · go_wp2
          refine ⟨⟨pos + n, L, C + 1, by omega, hit2, hbw2, rfl, by go_num, Lib.hid (Sp_on HS.out hlt (fun h => h10 (HR.out.2 h)) HD2.out), Lib.hid ?_⟩, ?_⟩
          · rw [← HP.out, HT.out, findAt_miss l line col _ _ (by rw [HAT.out]; intro h; exact hm h.1)]
          · rw [iterPos_of hit, iterPos_of hit2]; omega
    · have hnx := range_end Try.prog hit hlt
      obtain rfl : pos = l.length := by omega
      have hst := starts_end hlt
      have HT := Lib.hid hst
      have HAT := Lib.hid hat
      clear hst hat
      by_cases hm : (L : Int) = line
      · by_cases hm2 : (C : Int) = col
        · go_wp2
          go_ret2
          refine ⟨?_, hbw⟩
          rw [← HP.out, HT.out, findAt_hit l line col _ _ (by rw [HAT.out]; exact hm) (by rw [HAT.out]; exact hm2)]
          all_goals rfl
        · go_wp2
          go_ret2
          refine ⟨?_, hbw⟩
          rw [← HP.out, HT.out, findAt_miss l line col _ _ (by rw [HAT.out]; intro h; exact hm2 h.2), findAt_nil]
          all_goals rfl
      · go_wp2
        go_ret2
        refine ⟨?_, hbw⟩
        rw [← HP.out, HT.out, findAt_miss l line col _ _ (by rw [HAT.out]; intro h; exact hm h.1), findAt_nil]
        all_goals rfl
end Go.Proofs.Ytipcfdebbjfecaa
