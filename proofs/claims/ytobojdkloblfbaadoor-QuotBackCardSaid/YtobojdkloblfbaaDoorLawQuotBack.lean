/- QuotBack: what is quoted is read as it was. -/
import Derived.Test.YtobojdkloblfbaaDoorLawQuot0
import Derived.Test.YtobojdkloblfbaaDoorWQuote
import Derived.Test.YtobojdkloblfbaaDoorWScal
import Derived.Test.YtobojdkloblfbaaDoorLits
import Derived.OpenShut
namespace Go.Proofs.YtobojdkloblfbaaDoor
open Go.RowKit U Go.Proofs

theorem Tz.below2 {w0 w : World} (h : Tz w0) (hA : At w0 w) : Tz w := h.below hA.below
/-- The code point that a number gives. -/
def qb (y : Int) : Int := if low y 5 < 4 then [32, 10, 97, 34].getD (low y 5) 0 else (scalarOf (y.tdiv 5) : Int)
def qbs (ks : List Int) (i : Nat) : List UInt8 := enc ((ks.take i).map qb)
theorem qbs_zero (ks : List Int) : qbs ks 0 = [] := rfl
theorem qbs_succ (ks : List Int) {i : Nat} (h : i < ks.length) : qbs ks (i + 1) = qbs ks i ++ Lib.encodeRune (qb (ks[i]'h)) := by
  unfold qbs
  rw [List.take_succ_eq_append_getElem h, List.map_append, enc_append]
  simp [enc]
theorem qbs_len (ks : List Int) (i : Nat) : (qbs ks i).length ≤ 4 * i := by
  refine Nat.le_trans (enc_le _) ?_
  rw [List.length_map, List.length_take]
  omega
set_option maxRecDepth 100000 in
set_option maxHeartbeats 8000000 in
theorem quotBack_c (ks : List Int) (kv : Value) (single : Bool) (n : Int) (bh : List UInt8) (w : World) (hE : Env w) (hT : Tz w)
    (hk : Sl w kv (ks.map fun x : Int => Value.int .i64 x)) (_hkw : ∀ x ∈ ks, (Lit.int .i64 x).wf = true) (_hkl : ks.length ≤ 9223372036854775807)
    (hn0 : -9223372036854775808 ≤ n) (hn1 : n ≤ 9223372036854775807) (_hbl : bh.length ≤ 9223372036854775807) :
    Calls Tryd.prog 15 #[kv, .bool single, .int .i64 n, .string ⟨bh.toArray⟩] w fun e w' => e = .returned (.bool true) ∧ Below w.heap.size w w' := by
  have hA := At.refl hE
  obtain ⟨ka, kc, rfl, hkc⟩ := Sl.ints (k := .i64) hk
  have HKC := Lib.hid hkc
  clear hkc hk
  have out : ∀ (h : 40 < ks.length ∨ 20 < bh.length ∨ (0 < bh.length ∧ byt bh 0 = 39)), Calls Tryd.prog 15 #[.slice ka ks.length kc, .bool single, .int .i64 n, .string ⟨bh.toArray⟩] w fun e w' => e = .returned (.bool true) ∧ Below w.heap.size w w' := by
    intro h
    by_cases h1 : 40 < ks.length
    · go_enter Tryd.func15, Tryd.ntmps15
      go_wp2_with fail
      refine (awake12_c _).mono ?_
      rintro e w1 ⟨rfl, hb⟩
      go_wp2_with fail
      go_ret
      exact ⟨rfl, hb⟩
    by_cases h2 : 20 < bh.length
    · go_enter Tryd.func15, Tryd.ntmps15
      go_wp2_with fail
      refine (awake12_c _).mono ?_
      rintro e w1 ⟨rfl, hb⟩
      go_wp2_with fail
      go_ret
      exact ⟨rfl, hb⟩
    · obtain ⟨h3, h4⟩ := (h.resolve_left h1).resolve_left h2
      have g39 : ((byt bh 0 : Int) == 39) = true := by rw [h4]; rfl
      clear h h4
      go_enter Tryd.func15, Tryd.ntmps15
      go_wp2_with fail
      refine (awake12_c _).mono ?_
      rintro e w1 ⟨rfl, hb⟩
      go_wp2_with fail
      go_ret
      exact ⟨rfl, hb⟩
  by_cases hout : 40 < ks.length ∨ 20 < bh.length ∨ (0 < bh.length ∧ byt bh 0 = 39)
  · exact out hout
  clear out
  have h1 : ks.length ≤ 40 := by omega
  have h2 : bh.length ≤ 20 := by omega
  have hb39 : byt bh 0 ≠ 39 := by
    intro h
    rcases Nat.eq_zero_or_pos bh.length with h0 | h0
    · rw [byt_ge bh 0 (by omega)] at h; cases h
    · exact hout (.inr (.inr ⟨h0, h⟩))
  clear hout
  have hQB := quote_back (qbs ks ks.length) single bh n (place_enc _) hb39
  have hql := qbs_len ks ks.length
  have hqq := quote_le (qbs ks ks.length) single
  have hQ := fun w hE hT => quote_c (qbs ks ks.length) single w hE hT (by omega)
  have hRd := fun w => quotIs_c hQB w (by rw [List.length_append]; omega) (by omega) (by omega) hn0 hn1
  have HQ := Lib.hid hQ
  have HRd := Lib.hid hRd
  have hql2 : (quoteM (qbs ks ks.length) single).length ≤ 2000 := by omega
  clear hQ hRd hQB hqq
  have gb : (0 < bh.length ∧ ((byt bh 0 : Int) == 39) = false) ∨ bh = [] := by
    rcases Nat.eq_zero_or_pos bh.length with h0 | h0
    · exact .inr (List.eq_nil_of_length_eq_zero h0)
    · exact .inl ⟨h0, by rw [beq_eq_false_iff_ne]; omega⟩
  clear hb39
  rcases gb with ⟨hb0, g39⟩ | rfl
  all_goals
    go_enter Tryd.func15, Tryd.ntmps15
    go_wp2_with fail
    go_loopw [9, 10] (fun s9 s10 wr => ∃ i : Nat, i ≤ ks.length ∧ s9 = .string ⟨(qbs ks i).toArray⟩ ∧ s10 = .int .i64 i ∧ At w wr) (fun _ s10 _ => ks.length - (intOf s10).toNat)
    case atStart => exact ⟨0, Nat.zero_le _, rfl, rfl, hA⟩
    case round =>
      clear hA
      obtain ⟨i, hi, rfl, rfl, hA⟩ := hrel
      by_cases hlt : i < ks.length
      · obtain ⟨b, off, rfl, hbl, hcl⟩ := HKC.out i hlt
        have hcl2 := (hA.below.cell (p := ⟨b, off + i, none⟩) hbl).trans hcl
        have hsu := qbs_succ ks hlt
        have hl1 := qbs_len ks i
        have hl2 : (qbs ks i).length ≤ 160 := by omega
        obtain ⟨y, hy⟩ : ∃ y, ks[i]'hlt = y := ⟨_, rfl⟩
        rw [hy] at hcl2 hsu
        have HSU := Lib.hid hsu
        have hy0 : -9223372036854775808 ≤ y ∧ y ≤ 9223372036854775807 := bounds_i64 (_hkw y (by rw [← hy]; exact List.getElem_mem _))
        clear hsu hcl hbl hy hl1
        generalize qbs ks i = t at *
        have hL := fun w => low_c y 5 w (by omega) (by omega)
        have h5 := low_lt y 5 (by omega)
        go_wp2_with fail
        refine (hL _).mono ?_
        rintro e w1 ⟨rfl, rfl⟩
        by_cases h4 : low y 5 < 4
        · obtain ⟨z, hz, hzv⟩ : ∃ z : UInt8, [([32] : List UInt8), [10], [97], [34]].getD (low y 5) [] = [z] ∧ Lib.encodeRune (qb y) = [z] := by
            unfold qb
            rw [if_pos h4]
            rcases (show low y 5 = 0 ∨ low y 5 = 1 ∨ low y 5 = 2 ∨ low y 5 = 3 by omega) with h | h | h | h <;> (rw [h]; exact ⟨_, rfl, by decide⟩)
          have ck := lit_cell wr 9 (strs [[32], [10], [97], [34]]) (low y 5) _ (lit_at (xs := [[32], [10], [97], [34]]) h4)
          rw [hz] at ck
          change (wr.alloc (.cells #[.string ⟨#[32]⟩, .string ⟨#[10]⟩, .string ⟨#[97]⟩, .string ⟨#[34]⟩] 9)).cell? ⟨wr.heap.size, low y 5, none⟩ = some (.string ⟨#[z]⟩) at ck
          have hA2 := hA.alloc (.cells #[.string ⟨#[32]⟩, .string ⟨#[10]⟩, .string ⟨#[97]⟩, .string ⟨#[34]⟩] 9)
          have HZ : Hid (t ++ [z] = qbs ks (i + 1)) := Lib.hid (by rw [HSU.out, hzv])
          clear hz hzv HSU hL
          generalize low y 5 = c at *
          go_wp2_with fail
          go_round
          case rel => exact ⟨i + 1, by omega, by rw [← HZ.out], by go_num, hA2⟩
          case measure => simp [intOf]; omega
        · have hS := scalar_c (y.tdiv 5)
          obtain ⟨m, hm⟩ : ∃ m, Lib.encodeRune (qb y) = m := ⟨_, rfl⟩
          have hqy : qb y = (scalarOf (y.tdiv 5) : Int) := by unfold qb; rw [if_neg h4]
          have hen : Utf8.encode (scalarOf (y.tdiv 5) : Int) = ⟨m.toArray⟩ := by rw [encode_mk, ← hqy, hm]
          have hml : m.length ≤ 4 := by rw [← hm]; exact encR_le _
          have HZ : Hid (t ++ m = qbs ks (i + 1)) := Lib.hid (by rw [HSU.out, hm])
          have HEN := Lib.hid hen
          have HS := Lib.hid hS
          clear hm HSU hL hqy hen hS
          generalize low y 5 = c at *
          obtain rfl : c = 4 := by omega
          clear h4 h5
          go_wp2_with fail
          refine (HS.out _).mono ?_
          rintro e w1 ⟨rfl, rfl⟩
          have hen := HEN.out
          generalize scalarOf (y.tdiv 5) = sc at *
          go_wp2_with fail
          go_round
          case rel => exact ⟨i + 1, by omega, by rw [← HZ.out], by go_num, hA⟩
          case measure => simp [intOf]; omega
      · obtain rfl : i = ks.length := by omega
        generalize hX : qbs ks ks.length = X at *
        have hQ := HQ.out
        have hRd := HRd.out
        try simp only [List.append_nil] at hRd
        clear HQ HRd hX HKC
        generalize quoteM X single = T at *
        go_wp2_with fail
        refine (hQ _ hA.env (hT.below2 hA)).mono ?_
        rintro e w1 ⟨rfl, hb1⟩
        have hA := hA.step hb1
        go_wp2_with fail
        refine (hRd _).mono ?_
        rintro e w2 ⟨rfl, hb2⟩
        have hA := hA.step hb2
        go_wp2_with fail
        refine (awake12_c _).mono ?_
        rintro e w3 ⟨rfl, hb3⟩
        have hA := hA.step hb3
        go_wp2_with fail
        go_ret
        exact ⟨rfl, hA.below⟩
end Go.Proofs.YtobojdkloblfbaaDoor
