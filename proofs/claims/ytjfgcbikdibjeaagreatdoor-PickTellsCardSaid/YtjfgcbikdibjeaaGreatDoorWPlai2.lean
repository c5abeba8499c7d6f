/- The walks of package plai: a part of a plain scalar. -/
import Derived.Test.YtjfgcbikdibjeaaGreatDoorWPlai
namespace Go.Proofs.YtjfgcbikdibjeaaGreatDoor
open Go.RowKit U Go.Proofs

set_option maxRecDepth 100000 in
set_option maxHeartbeats 2000000 in
theorem begins_c (l : List UInt8) (p : Nat) (flow : Bool) (w : World) (hs : l.length ≤ 1073741824) (hp : p ≤ l.length) :
    Calls Tryz.prog 39 #[.string ⟨l.toArray⟩, .int .i64 p, .bool flow] w fun e w' => e = .returned (.bool (beginsM l p flow)) ∧ w = w' := by
  obtain ⟨S, hS⟩ : ∃ S, S = beginsM l p flow := ⟨_, rfl⟩
  rw [← hS]
  unfold beginsM at hS
  have hT := fun w => there_c l p w hs (by omega)
  have hE := fun w => ends_c l p w hs (by omega)
  have hI := fun w => indicator_c (byt l p) w (byt_lt l p)
  have hSt := fun w => stops_c l p flow w hs hp
  by_cases hlt : p < l.length
  · rw [decide_eq_true hlt] at hT
    cases he : endsM l p with
    | true =>
      rw [he] at hE hS
      have HS : Hid (S = false) := Lib.hid (by rw [hS]; rfl)
      clear hS he hI hSt
      go_enter Tryz.func39, Tryz.ntmps39
      go_wp2_with fail
      refine (hT _).mono ?_
      rintro e w1 ⟨rfl, rfl⟩
      go_wp2_with fail
      refine (hE _).mono ?_
      rintro e w1 ⟨rfl, rfl⟩
      go_wp2_with fail
      go_ret
      exact ⟨ret_bool HS.out.symm, rfl⟩
    | false =>
      rw [he] at hE hS
      have hS : S = if byt l p = 45 ∨ byt l p = 63 ∨ byt l p = 58 then !stopsN l p flow else !indN (byt l p) := by rw [hS]; rfl
      clear he
      generalize stopsN l p flow = st at *
      generalize indN (byt l p) = ind at *
      have key : (byt l p = 45 ∨ byt l p = 63 ∨ byt l p = 58) → S = !st := fun h => by rw [hS, if_pos h]
      by_cases h45 : byt l p = 45
      · have HS := Lib.hid (key (.inl h45))
        have g45 : ((byt l p : Int) == 45) = true := by rw [h45]; rfl
        clear hS key h45 hI
        go_enter Tryz.func39, Tryz.ntmps39
        go_wp2_with fail
        refine (hT _).mono ?_
        rintro e w1 ⟨rfl, rfl⟩
        go_wp2_with fail
        refine (hE _).mono ?_
        rintro e w1 ⟨rfl, rfl⟩
        go_wp2_with fail
        refine (hSt _).mono ?_
        rintro e w1 ⟨rfl, rfl⟩
        go_wp2_with fail
        go_ret
        exact ⟨ret_bool HS.out.symm, rfl⟩
      have g45 : ((byt l p : Int) == 45) = false := by rw [beq_eq_false_iff_ne]; omega
      by_cases h63 : byt l p = 63
      · have HS := Lib.hid (key (.inr (.inl h63)))
        have g63 : ((byt l p : Int) == 63) = true := by rw [h63]; rfl
        clear hS key h45 h63 hI
        go_enter Tryz.func39, Tryz.ntmps39
        go_wp2_with fail
        refine (hT _).mono ?_
        rintro e w1 ⟨rfl, rfl⟩
        go_wp2_with fail
        refine (hE _).mono ?_
        rintro e w1 ⟨rfl, rfl⟩
        go_wp2_with fail
        refine (hSt _).mono ?_
        rintro e w1 ⟨rfl, rfl⟩
        go_wp2_with fail
        go_ret
        exact ⟨ret_bool HS.out.symm, rfl⟩
      have g63 : ((byt l p : Int) == 63) = false := by rw [beq_eq_false_iff_ne]; omega
      by_cases h58 : byt l p = 58
      · have HS := Lib.hid (key (.inr (.inr h58)))
        have g58 : ((byt l p : Int) == 58) = true := by rw [h58]; rfl
        clear hS key h45 h63 h58 hI
        go_enter Tryz.func39, Tryz.ntmps39
        go_wp2_with fail
        refine (hT _).mono ?_
        rintro e w1 ⟨rfl, rfl⟩
        go_wp2_with fail
        refine (hE _).mono ?_
        rintro e w1 ⟨rfl, rfl⟩
        go_wp2_with fail
        refine (hSt _).mono ?_
        rintro e w1 ⟨rfl, rfl⟩
        go_wp2_with fail
        go_ret
        exact ⟨ret_bool HS.out.symm, rfl⟩
      have g58 : ((byt l p : Int) == 58) = false := by rw [beq_eq_false_iff_ne]; omega
      have HS : Hid (S = !ind) := Lib.hid (by rw [hS, if_neg (by omega)])
      clear hS key h45 h63 h58 hSt
      go_enter Tryz.func39, Tryz.ntmps39
      go_wp2_with fail
      refine (hT _).mono ?_
      rintro e w1 ⟨rfl, rfl⟩
      go_wp2_with fail
      refine (hE _).mono ?_
      rintro e w1 ⟨rfl, rfl⟩
      go_wp2_with fail
      refine (hI _).mono ?_
      rintro e w1 ⟨rfl, rfl⟩
      go_wp2_with fail
      go_ret
      exact ⟨ret_bool HS.out.symm, rfl⟩
  · rw [decide_eq_false hlt] at hT
    have HS : Hid (S = false) := Lib.hid (by rw [hS]; unfold endsM; rw [decide_eq_true (by omega)]; rfl)
    clear hS hI hSt hE hlt
    go_enter Tryz.func39, Tryz.ntmps39
    go_wp2_with fail
    refine (hT _).mono ?_
    rintro e w1 ⟨rfl, rfl⟩
    go_wp2_with fail
    go_ret
    exact ⟨ret_bool HS.out.symm, rfl⟩
set_option maxRecDepth 100000 in
set_option maxHeartbeats 2000000 in
theorem cuts_c (l : List UInt8) (p : Nat) (flow : Bool) (w : World) (hs : l.length ≤ 1073741824) (hp : p < l.length) :
    Calls Tryz.prog 82 #[.string ⟨l.toArray⟩, .int .i64 p, .bool flow] w fun e w' => e = .returned (.bool (cutsN l p flow)) ∧ w = w' := by
  obtain ⟨S, hS⟩ : ∃ S, S = cutsN l p flow := ⟨_, rfl⟩
  rw [← hS]
  unfold cutsN at hS
  by_cases h35 : byt l p = 35
  · rw [if_pos h35] at hS
    have g35 : ((byt l p : Int) == 35) = true := by rw [h35]; rfl
    rcases Nat.eq_zero_or_pos p with h0 | h0
    · subst h0
      have HS : Hid (S = false) := Lib.hid (by rw [hS]; rfl)
      clear hS h35
      go_enter Tryz.func82, Tryz.ntmps82
      go_wp2_with fail
      go_ret
      exact ⟨ret_bool HS.out.symm, rfl⟩
    · obtain ⟨k, rfl⟩ : ∃ k, p = k + 1 := ⟨p - 1, by omega⟩
      have HS : Hid (S = whN (byt l k)) := Lib.hid (by rw [hS, decide_eq_true h0, Bool.true_and]; rfl)
      have hW := fun w => white_c (byt l k) w (byt_lt l k)
      obtain ⟨q, hq⟩ : ∃ q, q = k + 1 := ⟨_, rfl⟩
      rw [← hq] at g35 hp ⊢
      have hkq : IntKind.i64.wrap ((q : Int) - 1) = (k : Int) := by rw [IntWalk.i64_in _ (by omega)]; omega
      have hq0 : 0 < q := by omega
      generalize whN (byt l k) = wv at *
      have hkl : k < l.length := by omega
      clear hS h35 h0 hq
      go_enter Tryz.func82, Tryz.ntmps82
      go_wp2_with fail
      refine (hW _).mono ?_
      rintro e w1 ⟨rfl, rfl⟩
      go_wp2_with fail
      go_ret
      exact ⟨ret_bool HS.out.symm, rfl⟩
  rw [if_neg h35] at hS
  have g35 : ((byt l p : Int) == 35) = false := by rw [beq_eq_false_iff_ne]; omega
  by_cases h58 : byt l p = 58
  · rw [if_pos h58] at hS
    have g58 : ((byt l p : Int) == 58) = true := by rw [h58]; rfl
    have hSt := fun w => stops_c l p flow w hs (by omega)
    have HS := Lib.hid hS
    generalize stopsN l p flow = st at *
    clear hS h35 h58
    go_enter Tryz.func82, Tryz.ntmps82
    go_wp2_with fail
    refine (hSt _).mono ?_
    rintro e w1 ⟨rfl, rfl⟩
    go_wp2_with fail
    go_ret
    exact ⟨ret_bool HS.out.symm, rfl⟩
  rw [if_neg h58] at hS
  have g58 : ((byt l p : Int) == 58) = false := by rw [beq_eq_false_iff_ne]; omega
  have hF := fun w => flow_c (byt l p) w (byt_lt l p)
  cases flow with
  | false =>
    have HS : Hid (S = false) := Lib.hid hS
    clear hS h35 h58 hF
    go_enter Tryz.func82, Tryz.ntmps82
    go_wp2_with fail
    go_ret
    exact ⟨ret_bool HS.out.symm, rfl⟩
  | true =>
    have HS : Hid (S = flowN (byt l p)) := Lib.hid hS
    generalize flowN (byt l p) = fl at *
    clear hS h35 h58
    go_enter Tryz.func82, Tryz.ntmps82
    go_wp2_with fail
    refine (hF _).mono ?_
    rintro e w1 ⟨rfl, rfl⟩
    go_wp2_with fail
    go_ret
    exact ⟨ret_bool HS.out.symm, rfl⟩
/-- Within a code point of more than one byte each byte is a great one. -/
theorem unit_high {m : List UInt8} {r n : Nat} (hne : m ≠ []) (h : dec m = (r, n)) : ∀ i, 1 ≤ i → i < n → 128 ≤ byt m i := by
  intro i h1 h2
  cases hb : bad m with
  | true =>
    rw [dec_bad hb] at h
    have : n = 1 := (congrArg Prod.snd h).symm
    omega
  | false =>
    have he := encR_dec m hne hb
    have hv := dec_valid m
    rw [h] at he hv
    simp only at he hv
    have hle := dec_w_le m hne
    rw [h] at hle
    simp only at hle
    rcases encR_first (r := (r : Int)) (by omega) (by omega) (by omega) with ⟨h3, h4⟩ | ⟨h3, h4⟩
    · rw [h4] at he
      have := congrArg List.length he
      rw [List.length_take] at this
      simp at this
      omega
    · rw [he] at h4
      have hb2 : byt (m.take n) i = byt m i := byt_take m n i h2
      rw [← hb2, ← byt_get (m.take n) i (by rw [List.length_take]; omega)]
      exact h4 _ (List.getElem_mem _)
theorem cuts_high {l : List UInt8} {j : Nat} {flow : Bool} (h : 128 ≤ byt l j) : cutsN l j flow = false := by
  unfold cutsN
  rw [if_neg (by omega), if_neg (by omega)]
  have : flowN (byt l j) = false := decide_eq_false (by omega)
  rw [this, Bool.and_false]
theorem partF_go (l : List UInt8) (flow : Bool) : ∀ (n f p : Nat), n ≤ f → (∀ j, p ≤ j → j < p + n → cutsN l j flow = false) → partF l flow f p = partF l flow (f - n) (p + n) := by
  intro n
  induction n with
  | zero => intro f p _ _; rfl
  | succ n ih =>
    intro f p hf h
    obtain ⟨g, rfl⟩ : ∃ g, f = g + 1 := ⟨f - 1, by omega⟩
    rw [partF, if_neg (by rw [h p (Nat.le_refl _) (by omega)]; decide), ih g (p + 1) (by omega) (fun j h1 h2 => h j (by omega) (by omega))]
    rw [show g + 1 - (n + 1) = g - n by omega, show p + 1 + n = p + (n + 1) by omega]
set_option maxRecDepth 100000 in
set_option maxHeartbeats 4000000 in
theorem part_c (l : List UInt8) (p : Nat) (flow : Bool) (w : World) (hs : l.length ≤ 1000000) (hp : p ≤ l.length) :
    Calls Tryz.prog 40 #[.string ⟨l.toArray⟩, .int .i64 p, .bool flow] w fun e w' => e = .returned (.int .i64 (partM l p flow)) ∧ Below w.heap.size w w' := by
  obtain ⟨S, hS⟩ : ∃ S, S = partM l p flow := ⟨_, rfl⟩
  rw [← hS]
  unfold partM at hS
  have hT := fun w => there_c l p w (by omega) (by omega)
  by_cases hlt : p < l.length
  · rw [if_pos hlt] at hS
    rw [decide_eq_true hlt] at hT
    have hR := fun w => row_n l p w (by omega) hp
    have hto := rowTo_le (l := l) (p := p) hp
    have hge := rowTo_ge l p
    have hpe := partF_le l flow (rowTo l p - p) p
    obtain ⟨E, hE⟩ : ∃ E, E = partF l flow (rowTo l p - p) p := ⟨_, rfl⟩
    rw [← hE] at hS hpe
    have HS := Lib.hid hS
    have HE := Lib.hid hE
    have hml : ((l.drop p).take (rowTo l p - p)).length = rowTo l p - p := by rw [List.length_take, List.length_drop]; omega
    have hmb : ∀ i, i < rowTo l p - p → byt ((l.drop p).take (rowTo l p - p)) i = byt l (p + i) := fun i hi => by rw [byt_take _ _ _ hi, byt_drop]
    have HMB := Lib.hid hmb
    have hC := fun (j : Nat) (w : World) (hj : j < l.length) => cuts_c l j flow w (by omega) hj
    clear hS hE hmb
    generalize rowFrom l p = fr at *
    generalize rowTo l p = te at *
    go_enter Tryz.func40, Tryz.ntmps40
    go_wp2_with fail
    refine (hT _).mono ?_
    rintro e w1 ⟨rfl, rfl⟩
    go_wp2_with fail
    refine (hR _).mono ?_
    rintro e w1 ⟨rfl, rfl⟩
    go_upto_block 0 with fail
    generalize hm : (l.drop p).take (te - p) = m at *
    clear hm
    have hb0 : Below w.heap.size w (w.iter ⟨m.toArray⟩ 0) := (Below.refl _ _).alloc (Nat.le_refl _) _
    have hi0 : (w.iter ⟨m.toArray⟩ 0).heap[w.heap.size]? = some (.stringIter ⟨m.toArray⟩ 0) := World.iter_heap w _ 0
    go_cut [9, 10] from 28 to 39 (fun s9 _ wx => s9 = .int .i64 E ∧ Below w.heap.size w wx)
    case first =>
      generalize w.iter ⟨m.toArray⟩ 0 = W0 at *
      generalize hK : w.heap.size = k at *
      clear hK hR hT
      go_wp2_with fail
      go_loopg [9, 10] m.length (fun gk s9 _ wr => ∃ pos : Nat, pos ≤ m.length ∧ gk = m.length - pos ∧ s9 = .int .i64 te ∧ wr.heap[k]? = some (.stringIter ⟨m.toArray⟩ pos) ∧ Below k w wr ∧ Hid (partF l flow (te - p - pos) (p + pos) = E))
      case atStart => exact ⟨0, Nat.zero_le _, rfl, rfl, hi0, hb0, Lib.hid HE.out.symm⟩
      case round =>
        clear hb0 hi0
        obtain ⟨pos, hpos, hgk, rfl, hit, hB, HR⟩ := hrel
        by_cases hlp : pos < m.length
        · obtain ⟨r, n, HD, HU, hn1, hn2, hr, hnx, hit2, hbw2, hsz, hsz2⟩ := range_at Tryz.prog hit hlp hB (Nat.le_refl _)
          obtain ⟨W, hWW⟩ : ∃ W, W = wr.iterAt k ⟨m.toArray⟩ (pos + n) := ⟨_, rfl⟩
          rw [← hWW] at hnx hit2 hbw2
          have hhi := unit_high (m := m.drop pos) (by rw [Ne, List.drop_eq_nil_iff]; omega) HD.out
          have hCp := fun w => hC (p + pos) w (by omega)
          rw [show ((p + pos : Nat) : Int) = (p : Int) + (pos : Int) by omega] at hCp
          clear hWW hsz hsz2 hit HU HD hC
          cases hc : cutsN l (p + pos) flow with
          | true =>
            rw [hc] at hCp
            have HE2 : Hid (E = p + pos) := Lib.hid (by
              have h1 := HR.out
              rw [show te - p - pos = (te - p - pos - 1) + 1 by omega, partF, if_pos hc] at h1
              exact h1.symm)
            clear hc HR hhi
            go_wp2_with fail
            refine (hCp _).mono ?_
            rintro e w2 ⟨rfl, rfl⟩
            go_wp2_with fail
            go_meet
            exact ⟨by rw [HE2.out, show ((p + pos : Nat) : Int) = (p : Int) + (pos : Int) by omega], hbw2⟩
          | false =>
            rw [hc] at hCp
            have HR2 : Hid (partF l flow (te - p - (pos + n)) (p + (pos + n)) = E) := Lib.hid (by
              rw [← HR.out, partF_go l flow n (te - p - pos) (p + pos) (by omega) (fun j h1 h2 => ?_)]
              · rw [show te - p - pos - n = te - p - (pos + n) by omega, show p + pos + n = p + (pos + n) by omega]
              · rcases Nat.eq_or_lt_of_le h1 with rfl | h1
                · exact hc
                · refine cuts_high ?_
                  have h3 := hhi (j - (p + pos)) (by omega) (by omega)
                  rw [byt_drop, HMB.out _ (by omega), show p + (pos + (j - (p + pos))) = j by omega] at h3
                  exact h3)
            clear hc HR hhi
            go_wp2_with fail
            refine (hCp _).mono ?_
            rintro e w2 ⟨rfl, rfl⟩
            go_wp2_with fail
            go_roundg (m.length - (pos + n))
            case measure => omega
            case rel => exact ⟨pos + n, by omega, rfl, rfl, hit2, hbw2, HR2⟩
        · have hnx := range_end Tryz.prog hit hlp
          have HE2 : Hid (E = te) := Lib.hid (by
            have h1 := HR.out
            rw [show te - p - pos = 0 by omega, partF] at h1
            omega)
          clear HR hC
          go_wp2_with fail
          go_meet
          exact ⟨by rw [HE2.out], hB⟩
    case rest =>
      obtain ⟨rfl, hB⟩ := hcut
      clear hb0 hi0 HMB hC HE hT hR
      have hE0 : p ≤ E ∧ E ≤ l.length := by omega
      go_wp2_with fail
      go_loopg [9] (E - p) (fun gk s9 wr => ∃ k : Nat, p + k ≤ l.length ∧ gk = k ∧ s9 = .int .i64 ((p : Int) + (k : Int)) ∧ wc = wr ∧ Hid (S = trimB l p k))
      case atStart => exact ⟨E - p, by omega, rfl, by rw [show (p : Int) + ((E - p : Nat) : Int) = (E : Int) by omega], rfl, HS⟩
      case round =>
        obtain ⟨k, hk, hgk, rfl, rfl, HT⟩ := hrel
        rcases Nat.eq_zero_or_pos k with h0 | h0
        · subst h0
          have HT2 : Hid (S = p) := Lib.hid HT.out
          go_wp2_with fail
          go_ret
          exact ⟨ret_int (by rw [HT2.out]; omega), hB⟩
        · obtain ⟨j, rfl⟩ : ∃ j, k = j + 1 := ⟨k - 1, by omega⟩
          have hW := fun w => white_c (byt l (p + j)) w (byt_lt l _)
          have hi1 : (p : Int) < (p : Int) + ((j + 1 : Nat) : Int) := by omega
          have hw1 : IntKind.i64.wrap ((p : Int) + ((j + 1 : Nat) : Int) - 1) = ((p + j : Nat) : Int) := by rw [IntWalk.i64_in _ (by omega)]; omega
          have hT1 := HT.out
          rw [trimB] at hT1
          cases hwh : whN (byt l (p + j)) with
          | true =>
            rw [hwh] at hW hT1
            rw [if_pos rfl] at hT1
            have HT2 := Lib.hid hT1
            clear hwh hT1 HT
            go_wp2_with fail
            refine (hW _).mono ?_
            rintro e w2 ⟨rfl, rfl⟩
            go_wp2_with fail
            go_roundg j
            case measure => omega
            case rel => exact ⟨j, by omega, rfl, by go_num, rfl, HT2⟩
          | false =>
            rw [hwh] at hW hT1
            rw [if_neg (by decide)] at hT1
            have HT2 := Lib.hid hT1
            clear hwh hT1 HT
            go_wp2_with fail
            refine (hW _).mono ?_
            rintro e w2 ⟨rfl, rfl⟩
            go_wp2_with fail
            go_ret
            exact ⟨ret_int (by rw [HT2.out]; omega), hB⟩
  · rw [if_neg hlt] at hS
    rw [decide_eq_false hlt] at hT
    have HS := Lib.hid hS
    clear hS hlt
    go_enter Tryz.func40, Tryz.ntmps40
    go_wp2_with fail
    refine (hT _).mono ?_
    rintro e w1 ⟨rfl, rfl⟩
    go_wp2_with fail
    go_ret
    exact ⟨ret_int (by rw [HS.out]), Below.refl _ _⟩
end Go.Proofs.YtjfgcbikdibjeaaGreatDoor
