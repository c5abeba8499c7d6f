/- The walk of bosketref1.Clean. -/
import Derived.Test.YtipcfdebbjfecaaDoorWRefPrint
import Derived.Test.YtipcfdebbjfecaaDoorWOne
import Derived.Test.YtipcfdebbjfecaaDoorWClean
import Derived.OwnWalk
import Derived.Lib.AppendStr
namespace Go.Proofs.YtipcfdebbjfecaaDoor
open Go.RowKit U Go.Proofs

theorem Tryd.infoU8 : (Tryd.prog.info? 5).map (fun i => (i.zero, i.size, i.bytes)) = some (some (.int .u8 0), 1, 1) := by kernel_rfl

theorem wpList_push_str {P : Program} {ops : Array Oper} {rest : List Oper} {o : Oper} {a : Act} {Q : Exit → Act → World → Prop} {w0 wr : World} (hgd : o.guard = none) (s x : Operand) (t u : TypeId)
    (ho : o.op = .call { callee := .builtin .append, args := #[s, x], argTypes := #[t, u] })
    (B : Nat) (e : TypeId) (i : TypeInfo) (ht : P.underlying t = some (.slice e)) (hu : P.underlying u = some .string) (hi : P.info? e = some i) (hz : i.zero = some (.int .u8 0))
    (hsize : i.size = 1) (hby : i.bytes = 1)
    (v : Value) (n : Nat) (xs : List Value) (m : List UInt8) (hs : a.eval s = v) (hown : wr.ownsRow B e 1 v n xs) (hx : a.eval x = .string ⟨m.toArray⟩)
    (h63 : n + m.length ≤ maxLen) (hbytes : n + m.length ≤ 140737488355328) (hb : Below B w0 wr) (hB : B ≤ wr.heap.size)
    (h : ∀ v' w', w'.ownsRow B e 1 v' (n + m.length) (xs ++ Lib.byteCells m) → Below B w0 w' → wpList P ops Q rest (a.put o.dst v') w') : wpList P ops Q (o :: rest) a wr := by
  refine Lib.wpList_append_own_string _ hgd s x t u ho B e i ht hu hi hz hsize hby v n xs hs hown ⟨m.toArray⟩ hx h63 hbytes hB ?_
  intro v' w' h1 h2 _
  exact h v' w' h1 (hb.grown h2 hB (fun k hk => (hown.lt k hk).1))

theorem lf_byte' (m : List UInt8) (c : Nat) (hc : c < 128) (h : (dec m).1 = c) : byt m 0 = c := by
  cases hb : bad m with
  | true => rw [dec_bad hb] at h; simp at h; omega
  | false =>
    have h2 := one_good hb
    have h3 := one_eq m
    rw [h2] at h3
    have h4 := dec_w_pos m
    rw [h3] at h h4
    unfold oneN at h h4
    repeat' split at h
    all_goals simp_all
    all_goals omega

set_option maxRecDepth 100000 in
set_option maxHeartbeats 4000000 in
theorem refClean_c (l : List UInt8) (v : Value) (w : World) (hE : Env w) (hv : Sl w v (Lib.byteCells l)) (hs : l.length ≤ 9223372036854775807) :
    Calls Tryd.prog 35 #[v] w fun e w' => e = .returned (.tuple #[.string ⟨(clean l).1.toArray⟩, .int .i64 (clean l).2.1, .int .i64 (clean l).2.2]) ∧ Below w.heap.size w w' := by
  have hA := At.refl hE
  obtain ⟨a, c, rfl⟩ := bytes_shape hv
  have hcv := run_str_of (P := Tryd.prog) (w := w) 41 9 5 _ l hv Tryd.underlying41 Tryd.underlying5 Tryd.underlying9
  by_cases hl : 65536 < l.length
  · have hcl : clean l = ([], 0, 2) := by rw [clean, if_pos hl]
    rw [hcl]
    go_enter Tryd.func35, Tryd.ntmps35
    go_wp2_with fail
    go_ret3
    exact ⟨rfl, hA.below⟩
  · obtain ⟨i0, hi, hz0, hz1, hz2⟩ := info_parts Tryd.infoU8
    obtain ⟨d, hd, ht, hk⟩ := trim_by l
    obtain ⟨W, hW⟩ : ∃ W, wrongOf (units d (l.drop d)) = W := ⟨_, rfl⟩
    have hcl := clean_by hl hd ht hW
    have HW := Lib.hid hW
    have HCL := Lib.hid hcl
    have HV := Lib.hid hv
    clear hW hcl hv ht
    rcases hk with ⟨rfl, h3⟩ | ⟨rfl, h3, hb⟩ | ⟨rfl, h3, hb⟩
    all_goals
      go_enter Tryd.func35, Tryd.ntmps35
      go_wp2_with (at_make; refine wpList_make_own _ rfl _ _ 41 rfl w.heap.size 5 i0 (.int .u8 0) 1 Tryd.underlying41 hi hz0 hz1 .i64 .i64 _ l.length rfl rfl rfl (by rw [hz2]; omega) (by unfold maxLen; omega) (Nat.le_refl _) ?_)
      intro w1 hown hgr
    all_goals
      have hA1 : At w w1 := hA.step (below_own hgr)
      go_wp2_with fail
      go_loopw [6, 7] (fun i v wr => ∃ (k : Nat) (out : List UInt8), k ≤ l.length ∧ i = .int .i64 k ∧ wr.ownsRow w.heap.size 5 1 v out.length (Lib.byteCells out) ∧ At w wr ∧ out.length ≤ k ∧ Hid (wrongOf (units k (l.drop k)) = W) ∧ Hid (clean l = if 0 ≤ W then ([], W, 3) else (out ++ norm (l.drop k), 0, 0))) (fun i _ _ => l.length - (intOf i).toNat)
    case atStart => exact ⟨0, [], by omega, rfl, hown, hA1, by simp, HW, HCL⟩
    case atStart => exact ⟨0, [], by omega, rfl, hown, hA1, by simp, HW, HCL⟩
    case atStart => exact ⟨3, [], by omega, rfl, hown, hA1, by simp, HW, HCL⟩
    all_goals
      obtain ⟨k, out, hk, rfl, hown, hA, hol, HW1, HC1⟩ := hrel
      have hsz := hA.below.size
      have hc3 : out.length + 1 ≤ maxLen := by unfold maxLen; omega
      have hc4 : (out.length + 1) * 1 ≤ 140737488355328 := by omega
      by_cases hlt : k < l.length
      · by_cases h13 : byt l k = 13
        · by_cases hlf : k + 1 < l.length ∧ byt l (k + 1) = 10
          · obtain ⟨g1, g2⟩ := hlf
            have hn := Lib.hid (norm_crlf g1 h13 g2)
            have hw1 := Lib.hid (wrong_byte hlt (.inl rfl) h13)
            have hw2 := Lib.hid (wrong_byte g1 (.inr rfl) g2)
            go_wp2_with (at_builtin; go_loud (refine wpList_push rfl _ _ 41 rfl w.heap.size 5 i0 (.int .u8 0) 1 Tryd.underlying41 hi hz0 hz1 hz2 rfl u7 _ _ _ rfl hown rfl rfl hc3 hc4 hA.below hsz ?_); intro v2 w2 hown2 hbw2)
            refine ⟨⟨k + 2, out ++ [10], by omega, by go_num, by simpa [Lib.byteCells] using hown2, ⟨hA.start, hbw2⟩, by simp; omega, Lib.hid ?_, Lib.hid ?_⟩, ?_⟩
            · rw [← hw2.out, ← hw1.out, HW1.out]
            · rw [HC1.out, hn.out]; simp
            · simp [intOf]; omega
          · have hn := Lib.hid (norm_cr hlt h13 hlf)
            have hw1 := Lib.hid (wrong_byte hlt (.inl rfl) h13)
            by_cases g1 : k + 1 < l.length
            · have g2 : byt l (k + 1) ≠ 10 := fun h => hlf ⟨g1, h⟩
              clear hlf
              go_wp2_with (at_builtin; go_loud (refine wpList_push rfl _ _ 41 rfl w.heap.size 5 i0 (.int .u8 0) 1 Tryd.underlying41 hi hz0 hz1 hz2 rfl u7 _ _ _ rfl hown rfl rfl hc3 hc4 hA.below hsz ?_); intro v2 w2 hown2 hbw2)
              refine ⟨⟨k + 1, out ++ [10], by omega, by go_num, by simpa [Lib.byteCells] using hown2, ⟨hA.start, hbw2⟩, by simp; omega, Lib.hid ?_, Lib.hid ?_⟩, ?_⟩
              · rw [← hw1.out, HW1.out]
              · rw [HC1.out, hn.out]; simp
              · simp [intOf]; omega
            · clear hlf
              go_wp2_with (at_builtin; go_loud (refine wpList_push rfl _ _ 41 rfl w.heap.size 5 i0 (.int .u8 0) 1 Tryd.underlying41 hi hz0 hz1 hz2 rfl u7 _ _ _ rfl hown rfl rfl hc3 hc4 hA.below hsz ?_); intro v2 w2 hown2 hbw2)
              refine ⟨⟨k + 1, out ++ [10], by omega, by go_num, by simpa [Lib.byteCells] using hown2, ⟨hA.start, hbw2⟩, by simp; omega, Lib.hid ?_, Lib.hid ?_⟩, ?_⟩
              · rw [← hw1.out, HW1.out]
              · rw [HC1.out, hn.out]; simp
              · simp [intOf]; omega
        · have hne := drop_ne' hlt
          have hw1 := dec_w_pos (l.drop k)
          have hw2 := dec_w_le (l.drop k) hne
          rw [List.length_drop] at hw2
          obtain ⟨r, n, hd⟩ : ∃ r n, dec (l.drop k) = (r, n) := ⟨_, _, rfl⟩
          have hu := units_cons k (l.drop k) hne
          have hnu := Lib.hid (norm_unit hlt h13 (show (dec (l.drop k)).2 = n by rw [hd]))
          rw [hd] at hw1 hw2 hu
          simp only [List.drop_drop] at hw1 hw2 hu
          have hr13 : r ≠ 13 := by
            rintro rfl
            have h1 := lf_byte' (l.drop k) 13 (by omega) (by rw [hd])
            rw [byt_drop, Nat.add_zero] at h1
            exact h13 h1
          have HU := Lib.hid hu
          have HD := Lib.hid hd
          clear hu hd hne
          cases hb : bad (l.drop k) with
          | true =>
            have HB := Lib.hid hb
            have hW : W = k := by
              rw [← HW1.out, HU.out, wrongOf_yes _ _ (by have := HB.out; simp only [bad, HD.out] at this; simp [wrongU, this])]
            have hcl : clean l = ([], (k : Int), 3) := by rw [HC1.out, if_pos (by omega), hW]
            have HK := Lib.hid hcl
            clear hb hcl
            go_wp2_with fail
            refine (one_c l k _ (by omega) hlt).mono ?_
            rintro e w2 ⟨rfl, rfl⟩
            rw [one_bad HB.out]
            go_wp2_with fail
            go_ret3
            refine ⟨?_, hA.below⟩
            rw [HK.out]
            rfl
          | false =>
            have HB := Lib.hid hb
            clear hb
            have hnl : ((l.drop k).take n).length = n := by rw [List.length_take, List.length_drop]; omega
            obtain ⟨b, hb⟩ : ∃ b, printable r = b := ⟨_, rfl⟩
            have hn0 : ((n : Int) == 0) = false := by simp; omega
            cases b with
            | true =>
              have hwu : wrongU (k, r, n) = false := by
                have := HB.out
                simp only [bad, HD.out] at this
                simp [wrongU, this, hb]
              have HBB := Lib.hid hb
              have HWU := Lib.hid hwu
              clear hb hwu
              go_wp2_with fail
              refine (one_c l k _ (by omega) hlt).mono ?_
              rintro e w2 ⟨rfl, rfl⟩
              rw [one_good HB.out, HD.out]
              go_wp2_with fail
              refine (refPrintable_c r _).mono ?_
              rw [HBB.out]
              rintro e w2 ⟨rfl, rfl⟩
              go_wp2_with (at_builtin; go_loud (refine wpList_push_str rfl _ _ 41 9 rfl w.heap.size 5 i0 Tryd.underlying41 Tryd.underlying9 hi hz0 hz1 hz2 u7 _ _ _ rfl hown rfl (by simp only [List.length_take, List.length_drop]; unfold maxLen; omega) (by simp only [List.length_take, List.length_drop]; omega) hA.below hsz ?_); intro v2 w2 hown2 hbw2)
              refine ⟨⟨k + n, out ++ (l.drop k).take n, by omega, by go_num, by simpa [Lib.byteCells, Nat.add_sub_cancel_left] using hown2, ⟨hA.start, hbw2⟩, by rw [List.length_append]; omega, Lib.hid ?_, Lib.hid ?_⟩, ?_⟩
              · rw [← HW1.out, HU.out, wrongOf_no _ _ HWU.out]
              · rw [HC1.out, hnu.out, List.append_assoc]
              · simp [intOf]; omega
            | false =>
              have hW : W = k := by
                rw [← HW1.out, HU.out, wrongOf_yes _ _ (by simp [wrongU, hb, hr13])]
              have hcl : clean l = ([], (k : Int), 3) := by rw [HC1.out, if_pos (by omega), hW]
              have HK := Lib.hid hcl
              have HBB := Lib.hid hb
              clear hb hcl
              go_wp2_with fail
              refine (one_c l k _ (by omega) hlt).mono ?_
              rintro e w2 ⟨rfl, rfl⟩
              rw [one_good HB.out, HD.out]
              go_wp2_with fail
              refine (refPrintable_c r _).mono ?_
              rw [HBB.out]
              rintro e w2 ⟨rfl, rfl⟩
              go_wp2_with fail
              go_ret3
              refine ⟨?_, hA.below⟩
              rw [HK.out]
              rfl
      · obtain rfl : k = l.length := by omega
        have hnil : l.drop l.length = [] := List.drop_eq_nil_of_le (Nat.le_refl _)
        have hW : W = -1 := by rw [← HW1.out, hnil]; rfl
        have hcl : clean l = (out, 0, 0) := by rw [HC1.out, if_neg (by omega), hnil]; simp [norm]
        have hcv2 := run_str_of (P := Tryd.prog) (w := wr) 41 9 5 u7 out (Sl.own hown) Tryd.underlying41 Tryd.underlying5 Tryd.underlying9
        have HK := Lib.hid hcl
        clear hcl hnil
        go_wp2_with fail
        go_ret3
        refine ⟨?_, hA.below⟩
        rw [HK.out]
        rfl
end Go.Proofs.YtipcfdebbjfecaaDoor
