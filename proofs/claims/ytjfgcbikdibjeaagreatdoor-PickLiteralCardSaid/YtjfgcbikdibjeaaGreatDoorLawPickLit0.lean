/- PickLiteral's inner walk: what may stand in rows is read from them as it is. -/
import Derived.Test.YtjfgcbikdibjeaaGreatDoorLawPick1
import Derived.Test.YtjfgcbikdibjeaaGreatDoorPAllB
import Derived.Test.YtjfgcbikdibjeaaGreatDoorWBlocRead
namespace Go.Proofs.YtjfgcbikdibjeaaGreatDoor
open Go.RowKit U Go.Proofs

theorem blread23_c (l : List UInt8) (a n : Int) (w : World) (hs : l.length ≤ 900000) (hn1 : -9223372036854775808 ≤ n) (hn2 : n ≤ 9223372036854775807) :
    Calls Tryz.prog 73 #[.string ⟨l.toArray⟩, .int .i64 a, .int .i64 n] w (BlRet w (blocM l a n).1 (blocM l a n).2.1 (blocM l a n).2.2) := by
  cases h : startB l a with
  | false =>
    have e : blocM l a n = (.zero, a, 5) := by unfold blocM; rw [if_neg (by rw [h]; decide)]
    rw [e]
    exact blread_no l a n w (by omega) h
  | true =>
    obtain ⟨h1, h2, h3⟩ := of_decide_eq_true h
    have e : blocM l a n = blocOf l a.toNat n := by unfold blocM; rw [if_pos h]
    rw [e]
    obtain ⟨p, rfl⟩ : ∃ p : Nat, a = p := ⟨a.toNat, by omega⟩
    rw [Int.toNat_natCast] at h3 ⊢
    exact blread_yes l p n w hs (by omega) h3 hn1 hn2
set_option maxRecDepth 100000 in
set_option maxHeartbeats 1000000 in
theorem blan23_c (n : Nat) (w : World) (hn : n ≤ 1000000) : Calls Tryz.prog 72 #[.int .i64 n] w fun e w' => e = .returned (.string ⟨(List.replicate n 32).toArray⟩) ∧ w = w' := by
  go_enter Tryz.func72, Tryz.ntmps72
  go_wp2_with fail
  go_loop [3, 4] (fun s i => ∃ (k : Nat) (t : List UInt8), k ≤ n ∧ s = .string ⟨t.toArray⟩ ∧ t.length = k ∧ Hid (t = List.replicate k 32) ∧ i = .int .i64 k) (fun _ i => n - (intOf i).toNat)
  case atStart => exact ⟨0, [], Nat.zero_le _, rfl, rfl, Lib.hid rfl, rfl⟩
  case round =>
    obtain ⟨k, t, hk, rfl, htk, HT, rfl⟩ := hrel
    by_cases hlt : k < n
    · go_wp2_with fail
      go_round
      case rel => exact ⟨k + 1, t ++ [32], by omega, rfl, by simp; omega, Lib.hid (by rw [HT.out, List.replicate_succ']), by go_num⟩
      case measure => simp [intOf]; omega
    · obtain rfl : k = n := by omega
      go_wp2_with fail
      go_ret
      exact ⟨ret_str (by rw [HT.out]), rfl⟩
theorem litF_len (w : Nat) : ∀ (t : List UInt8) (g : Bool), (litF w g t).length ≤ (w + 1) * t.length := by
  intro t
  induction t with
  | nil => intro g; exact Nat.zero_le _
  | cons b t ih =>
    intro g
    rw [litF, List.length_append, List.length_cons, List.length_cons]
    have := ih (decide (b = 10))
    rw [Nat.mul_succ]
    split
    · rw [List.length_replicate]; omega
    · rw [List.length_nil]; omega
theorem last_byt {s : List UInt8} (h : s ≠ []) : s.getLast? = some 10 ↔ byt s (s.length - 1) = 10 := by
  have hp := List.length_pos_iff.2 h
  rw [List.getLast?_eq_getElem?, List.getElem?_eq_getElem (by omega), ← byt_get s (s.length - 1) (by omega)]
  constructor
  · intro h; rw [Option.some.inj h]; rfl
  · intro h; rw [show s[s.length - 1]'(by omega) = 10 from UInt8.toNat_inj.1 h]
set_option maxRecDepth 100000 in
set_option maxHeartbeats 8000000 in
theorem plit_c (s : List UInt8) (x : Nat) (bh : Bool) (w : World) (hE : Env w) (hs : s.length ≤ 100) (hx1 : 1 ≤ x) (hx9 : x ≤ 9) (h : literalM s = true) :
    Calls Tryz.prog 36 #[.string ⟨s.toArray⟩, .int .i64 x, .bool bh] w fun e w' => e = .returned (.bool true) ∧ Below w.heap.size w w' := by
  have hA := At.refl hE
  have hs0 : s ≠ [] := by intro h0; rw [h0] at h; cases h
  have hsp := List.length_pos_iff.2 hs0
  have hne : (s == []) = false := by cases s with | nil => exact absurd rfl hs0 | cons _ _ => rfl
  have hie : s.isEmpty = false := by cases s with | nil => exact absurd rfl hs0 | cons _ _ => rfl
  have hlb := last_byt hs0
  have hl1 := literal_law (w := x) (rest := []) h hx1 (.inl rfl)
  have hl2 := literal_law (w := x) (rest := [35, 32, 122, 10, 121, 58, 32, 120, 10]) h hx1 (.inr rfl)
  have hml := trimLF_len s
  have hdr : s.getLast? = some 10 → trimLF s = s.take (s.length - 1) := fun hq => by unfold trimLF; rw [if_pos hq, List.dropLast_eq_take]
  have hdn : s.getLast? ≠ some 10 → trimLF s = s := fun hq => by unfold trimLF; rw [if_neg hq]
  have hH1 : s.getLast? = some 10 → litH s = [124] := fun hq => if_pos hq
  have hH2 : s.getLast? ≠ some 10 → litH s = [124, 45] := fun hq => if_neg hq
  generalize trimLF s = m at *
  generalize litH s = hd at *
  have hw1 : IntKind.i64.wrap ((s.length : Int) - 1) = ((s.length - 1 : Nat) : Int) := by rw [IntWalk.i64_in _ (by omega)]; omega
  have hq1 : s.length - 1 < s.length := by omega
  have HL := Lib.hid (And.intro hl1 hl2)
  have hBl := fun w => blan23_c x w (by omega)
  clear hl1 hl2 h hs0
  go_enter Tryz.func36, Tryz.ntmps36
  go_upto_if 23 with fail
  go_cut [7, 8] from 23 to 28 (fun s7 s8 wx => s7 = .string ⟨m.toArray⟩ ∧ s8 = .string ⟨(hd ++ [10]).toArray⟩ ∧ hd.length ≤ 2 ∧ w = wx)
  case first =>
    clear HL
    generalize s.length - 1 = q at *
    by_cases hq : s.getLast? = some 10
    · have g10 : ((byt s q : Int) == 10) = true := by rw [hlb.1 hq]; rfl
      have hm := hdr hq
      have hh := hH1 hq
      clear hlb hdr hdn hH1 hH2 hq
      subst hm hh
      go_wp2_with fail
      go_meet
      exact ⟨rfl, rfl, by decide, rfl⟩
    · have g10 : ((byt s q : Int) == 10) = false := by rw [beq_eq_false_iff_ne]; intro h; exact hq (hlb.2 (by omega))
      have hm := hdn hq
      have hh := hH2 hq
      clear hlb hdr hdn hH1 hH2 hq
      subst hm hh
      go_wp2_with fail
      go_meet
      exact ⟨rfl, rfl, by decide, rfl⟩
  case rest =>
    obtain ⟨rfl, rfl, hhl, rfl⟩ := hcut
    clear hlb hdr hdn hH1 hH2
    have hml2 : m.length ≤ 100 := by omega
    go_wp2_with fail
    go_loopg [8, 9, 10] m.length (fun gk s8 s9 s10 wr => ∃ (i : Nat) (t : List UInt8) (g : Bool), i ≤ m.length ∧ gk = m.length - i ∧ s8 = .string ⟨t.toArray⟩ ∧ s9 = .bool g ∧ s10 = .int .i64 i ∧ t.length ≤ 3 + 10 * i ∧ Hid (t ++ litF x g (m.drop i) = hd ++ [10] ++ litF x true m) ∧ w = wr)
    case atStart => exact ⟨0, _, true, Nat.zero_le _, rfl, rfl, rfl, rfl, by simp; omega, Lib.hid (by rw [List.drop_zero]), rfl⟩
    case round =>
      obtain ⟨i, t, g, hi, hgk, rfl, rfl, rfl, htl, HT, rfl⟩ := hrel
      by_cases hlt : i < m.length
      · have hg := byt_get m i hlt
        have hst := HT.out
        rw [List.drop_eq_getElem_cons hlt, litF] at hst
        have hi1 : ((i : Int) + 1).toNat = i + 1 := by omega
        have hsl : (m.drop i).take (i + 1 - i) = [m[i]'hlt] := by
          rw [List.drop_eq_getElem_cons hlt, show i + 1 - i = 1 by omega]; rfl
        have hsl2 : List.take 1 (m.drop i) = [m[i]'hlt] := by rw [List.drop_eq_getElem_cons hlt]; rfl
        have hj1 : (i : Int) + 1 ≤ (m.length : Int) := by omega
        have hj2 : (i : Int) ≤ (i : Int) + 1 := by omega
        have hj3 : (0 : Int) ≤ (i : Int) := by omega
        generalize (m[i]'hlt) = c at *
        have hrl : (List.replicate x (32 : UInt8)).length = x := List.length_replicate
        generalize List.replicate x (32 : UInt8) = bl at *
        by_cases h10 : byt m i = 10
        · have hc : c = 10 := UInt8.toNat.inj (by rw [hg, h10]; rfl)
          have g10 : ((byt m i : Int) == 10) = true := by rw [h10]; rfl
          have g10n : ((byt m i : Int) != 10) = false := by rw [h10]; rfl
          rw [if_neg (fun h => h.2 hc), List.nil_append, decide_eq_true hc] at hst
          have HST : Hid ((t ++ [c]) ++ litF x true (m.drop (i + 1)) = hd ++ [10] ++ litF x true m) := Lib.hid (by rw [← hst]; simp)
          clear hg hc h10 hst HT HL
          cases g with
          | true =>
            go_wp2_with fail
            go_roundg (m.length - (i + 1))
            case measure => omega
            case rel => exact ⟨i + 1, t ++ [c], true, by omega, rfl, by first | rfl | simp, rfl, by go_num, by simp; omega, HST, rfl⟩
          | false =>
            go_wp2_with fail
            go_roundg (m.length - (i + 1))
            case measure => omega
            case rel => exact ⟨i + 1, t ++ [c], true, by omega, rfl, by first | rfl | simp, rfl, by go_num, by simp; omega, HST, rfl⟩
        · have hc : c ≠ 10 := fun e => h10 (by rw [← hg, e]; rfl)
          have g10 : ((byt m i : Int) == 10) = false := by simp; omega
          have g10n : ((byt m i : Int) != 10) = true := by rw [bne_iff_ne]; omega
          rw [decide_eq_false hc] at hst
          cases g with
          | true =>
            rw [if_pos ⟨rfl, hc⟩] at hst
            have HST : Hid ((t ++ bl ++ [c]) ++ litF x false (m.drop (i + 1)) = hd ++ [10] ++ litF x true m) := Lib.hid (by rw [← hst]; simp)
            clear hg hc h10 hst HT HL
            go_wp2_with fail
            refine (hBl _).mono ?_
            rintro e w1 ⟨rfl, rfl⟩
            go_wp2_with fail
            go_roundg (m.length - (i + 1))
            case measure => omega
            case rel => exact ⟨i + 1, t ++ bl ++ [c], false, by omega, rfl, by first | rfl | simp, rfl, by go_num, by simp; omega, HST, rfl⟩
          | false =>
            rw [if_neg (fun h => by cases h.1), List.nil_append] at hst
            have HST : Hid ((t ++ [c]) ++ litF x false (m.drop (i + 1)) = hd ++ [10] ++ litF x true m) := Lib.hid (by rw [← hst]; simp)
            clear hg hc h10 hst HT HL
            go_wp2_with fail
            go_roundg (m.length - (i + 1))
            case measure => omega
            case rel => exact ⟨i + 1, t ++ [c], false, by omega, rfl, by first | rfl | simp, rfl, by go_num, by simp; omega, HST, rfl⟩
      · obtain rfl : i = m.length := by omega
        have hst := HT.out
        rw [List.drop_length, litF, List.append_nil] at hst
        have htl2 : t.length ≤ 1003 := by omega
        obtain ⟨hl1, hl2⟩ := HL.out
        rw [List.append_nil, ← hst] at hl1
        rw [← hst] at hl2
        have hlen : hd.length + 1 + (litF x true m).length + 1 = (t ++ [10]).length := by rw [hst]; simp; omega
        rw [hlen] at hl1 hl2
        have hr1 := fun w => blread23_c (t ++ [10]) 0 (-1) w (by rw [List.length_append]; show _ + 1 ≤ _; omega) (by omega) (by omega)
        have hr2 := fun w => blread23_c (t ++ [10] ++ [35, 32, 122, 10, 121, 58, 32, 120, 10]) 0 (-1) w (by rw [List.length_append, List.length_append]; show _ + 1 + 9 ≤ _; omega) (by omega) (by omega)
        rw [hl1] at hr1
        rw [hl2] at hr2
        rw [List.length_append] at hr1 hr2
        simp only [List.length_singleton] at hr1 hr2
        rw [show ((t.length + 1 : Nat) : Int) = (t.length : Int) + 1 by omega] at hr1 hr2
        simp only [List.append_assoc, List.cons_append, List.nil_append] at hr2
        clear hl1 hl2 hst HT HL hlen hBl htl hhl
        cases bh with
        | false =>
          go_wp2_with fail
          refine (hr1 _).mono ?_
          rintro e w2 ⟨rfl, hb2⟩
          have hN : Full (w2.alloc (.cells (bnCells ⟨1, 4, 0, false, [], s⟩).toArray 28)) w2.heap.size 28 (bnCells ⟨1, 4, 0, false, [], s⟩) := Full.new _ _ _
          have hA := (hA.step hb2).alloc (.cells (bnCells ⟨1, 4, 0, false, [], s⟩).toArray 28)
          go_upto_region 21 with fail
          generalize w2.alloc (.cells (bnCells ⟨1, 4, 0, false, [], s⟩).toArray 28) = w3 at *
          have n0 : w3.cell? ⟨w2.heap.size, 0, none⟩ = some (.int .i64 1) := hN.cell 0
          have n1 : w3.cell? ⟨w2.heap.size, 1, none⟩ = some (.int .i64 4) := hN.cell 1
          have n6 : w3.cell? ⟨w2.heap.size, 6, none⟩ = some (.string ⟨s.toArray⟩) := hN.cell 6
          have n10 : w3.cell? ⟨w2.heap.size, 10, none⟩ = some (.bool false) := hN.cell 10
          generalize w2.heap.size = gg at *
          clear hr1 hr2 hb2 hN hs hx1 hx9 hsp hne hie hml hw1 hq1 hml2 hi hgk hlt htl2
          go_wp2_with fail
          go_ret
          exact ⟨rfl, hA.below⟩
        | true =>
          go_wp2_with fail
          refine (hr2 _).mono ?_
          rintro e w2 ⟨rfl, hb2⟩
          have hN : Full (w2.alloc (.cells (bnCells ⟨1, 4, 0, false, [], s⟩).toArray 28)) w2.heap.size 28 (bnCells ⟨1, 4, 0, false, [], s⟩) := Full.new _ _ _
          have hA := (hA.step hb2).alloc (.cells (bnCells ⟨1, 4, 0, false, [], s⟩).toArray 28)
          go_upto_region 21 with fail
          generalize w2.alloc (.cells (bnCells ⟨1, 4, 0, false, [], s⟩).toArray 28) = w3 at *
          have n0 : w3.cell? ⟨w2.heap.size, 0, none⟩ = some (.int .i64 1) := hN.cell 0
          have n1 : w3.cell? ⟨w2.heap.size, 1, none⟩ = some (.int .i64 4) := hN.cell 1
          have n6 : w3.cell? ⟨w2.heap.size, 6, none⟩ = some (.string ⟨s.toArray⟩) := hN.cell 6
          have n10 : w3.cell? ⟨w2.heap.size, 10, none⟩ = some (.bool false) := hN.cell 10
          generalize w2.heap.size = gg at *
          clear hr1 hr2 hb2 hN hs hx1 hx9 hsp hne hie hml hw1 hq1 hml2 hi hgk hlt htl2
          go_wp2_with fail
          go_ret
          exact ⟨rfl, hA.below⟩
end Go.Proofs.YtjfgcbikdibjeaaGreatDoor
