/- PickMeans: the style in which a scalar is told leaves what it means. -/
import Derived.Test.YtjfgcbikdibjeaaGreatDoorLawPick1
namespace Go.Proofs.YtjfgcbikdibjeaaGreatDoor
open Go.RowKit U Go.Proofs

theorem styleM_ways (t : List UInt8) (st : Nat) (tag single bare flow row : Bool) : (styleM t st tag single bare flow row = 1 ∧ (st = 1 ∨ (st ≠ 1 ∧ tag = false ∧ bare = true ∧ coreP t = wStr))) ∨
    ((st ≠ 1 ∨ coreP t = wStr) ∧ ((styleM t st tag single bare flow row = 4 ∧ row = false ∧ 4 ≤ st) ∨ styleM t st tag single bare flow row = 2 ∨ styleM t st tag single bare flow row = 3)) := by
  unfold styleM
  by_cases h1 : st = 1 ∧ (t = [] ∨ plainM t flow = true)
  · rw [if_pos h1]
    exact .inl ⟨rfl, .inl h1.1⟩
  rw [if_neg h1]
  have hq : st ≠ 1 ∨ coreP t = wStr := by
    rcases Nat.decEq st 1 with h | h
    · exact .inl h
    · refine .inr (Decidable.byContradiction fun hc => h1 ⟨h, ?_⟩)
      rcases Decidable.em (t = []) with h0 | h0
      · exact .inl h0
      · exact .inr (core_plain h0 hc flow)
  by_cases h2 : (st = 4 ∨ st = 5) ∧ row = false ∧ literalM t = true
  · rw [if_pos h2]
    exact .inr ⟨hq, .inl ⟨rfl, h2.2.1, by omega⟩⟩
  rw [if_neg h2]
  by_cases h3 : bare = true ∧ st ≠ 1 ∧ tag = false ∧ plainM t flow = true ∧ coreP t = wStr
  · rw [if_pos h3]
    exact .inl ⟨rfl, .inr ⟨h3.2.1, h3.2.2.1, h3.1, h3.2.2.2.2⟩⟩
  rw [if_neg h3]
  split
  · exact .inr ⟨hq, .inr (.inl rfl)⟩
  · exact .inr ⟨hq, .inr (.inr rfl)⟩
theorem means_same (t : List UInt8) (st : Nat) (tag single bare flow row : Bool) : meansP t (styleM t st tag single bare flow row) = meansP t st := by
  rcases styleM_ways t st tag single bare flow row with ⟨h, h2⟩ | ⟨h1, h2⟩
  · rw [h]
    unfold meansP
    rw [if_pos rfl]
    rcases h2 with h2 | ⟨h2, _, _, h3⟩
    · rw [if_pos h2]
    · rw [if_neg h2, h3]
  · have hne : styleM t st tag single bare flow row ≠ 1 := by omega
    unfold meansP
    rw [if_neg hne]
    by_cases h : st = 1
    · rw [if_pos h]
      exact ((h1.resolve_left (fun hn => hn h))).symm
    · rw [if_neg h]
/-- What PickMeans asks of a style. -/
def WaysP (T st : Nat) (tag bare row : Bool) : Prop := (T = 1 ∧ st = 1) ∨ (T = 1 ∧ st ≠ 1 ∧ tag = false ∧ bare = true) ∨ (T = 4 ∧ row = false ∧ ¬ (st : Int) < 4) ∨ ((T = 2 ∨ T = 3))
theorem ways_p (t : List UInt8) (st : Nat) (tag single bare flow row : Bool) : WaysP (styleM t st tag single bare flow row) st tag bare row := by
  unfold WaysP
  rcases styleM_ways t st tag single bare flow row with ⟨h, h2 | ⟨h2, h3, h4, _⟩⟩ | ⟨_, ⟨h, h3, h4⟩ | h | h⟩
  · exact .inl ⟨h, h2⟩
  · exact .inr (.inl ⟨h, h2, h3, h4⟩)
  · exact .inr (.inr (.inl ⟨h, h3, by omega⟩))
  · exact .inr (.inr (.inr (.inl h)))
  · exact .inr (.inr (.inr (.inr h)))
set_option maxRecDepth 100000 in
set_option maxHeartbeats 16000000 in
theorem pickMeans_c (l : List UInt8) (n : Int) (tag : Bool) (y : Int) (flow row bare : Bool) (w : World) (hE : Env w) (_hl : l.length ≤ 9223372036854775807) (_n1 : -9223372036854775808 ≤ n) (_n2 : n ≤ 9223372036854775807) (_y1 : -9223372036854775808 ≤ y) (_y2 : y ≤ 9223372036854775807) :
    Calls Tryz.prog 6 #[.string ⟨l.toArray⟩, .int .i64 n, .bool tag, .int .i64 y, .bool flow, .bool row, .bool bare] w fun e w' => e = .returned (.bool true) ∧ Below w.heap.size w w' := by
  have hA := At.refl hE
  by_cases h80 : 80 < l.length
  · go_enter Tryz.func6, Tryz.ntmps6
    go_wp2_with fail
    refine (awake23_c _ hE).mono ?_
    rintro e w1 ⟨rfl, hb⟩
    go_wp2_with fail
    go_ret
    exact ⟨rfl, hb⟩
  have hl80 : l.length ≤ 80 := by omega
  clear h80 _hl
  have hst := styleOf_le y
  have hSc := fun t tg w => scalar23_c t tg y w
  generalize styleOf y = st at *
  cases tag
  case false =>
    go_enter Tryz.func6, Tryz.ntmps6
    go_wp2_with fail
    go_loopg [0, 16] 2 (fun gk s0 s16 wr => ∃ (i : Nat) (t : List UInt8), i ≤ 2 ∧ gk = 2 - i ∧ s0 = .string ⟨t.toArray⟩ ∧ s16 = .int .i64 i ∧ t.length ≤ 80 ∧ At w wr)
    case atStart => exact ⟨0, l, Nat.zero_le _, rfl, rfl, rfl, hl80, hA⟩
    case round =>
      clear hA
      obtain ⟨i, t, hi, hgk, rfl, rfl, htl, hA⟩ := hrel
      by_cases hlt : i < 2
      · have hWd := fun w => pword_c n w
        have hwl := pword_len n
        generalize pword n = wd at *
        have hSc := fun w => hSc t [] w
        have hSt := fun w hE => style_c 1 (-1) 0 80 2 0 st [] t false false false false bare flow row w hE (by omega) (by omega)
        have hw := ways_p t st (!([] : List UInt8).isEmpty) false bare flow row
        have hm := means_same t st (!([] : List UInt8).isEmpty) false bare flow row
        have hM := fun k w h => means_c t k w (by omega) h
        generalize styleM t st (!([] : List UInt8).isEmpty) false bare flow row = T at *
        have hT5 : T ≤ 100 := by unfold WaysP at hw; omega
        have hM1 := fun w => hM st w (by omega)
        have hM2 := fun w => hM T w hT5
        rw [hm] at hM2
        generalize longOf (meansP t st) = mn at *
        clear hM hm
        unfold scCells at hSc hSt
        unfold cfCells at hSt
        have HW := Lib.hid hw
        clear hw
        go_upto_region 10 with (refine (hSc _).mono ?_; rintro e w1 ⟨rfl, hb1⟩)
        have hA := (hA.step hb1).alloc (.cells #[.int .i64 1, .int .i64 st, .int .i64 (-1), .int .i64 0, .string ⟨#[]⟩, .string ⟨#[]⟩, .string ⟨t.toArray⟩, .slice none 0 0, .slice none 0 0, .slice none 0 0, .bool false, .string ⟨#[]⟩] 28)
        have hN : Full (w1.alloc (.cells #[.int .i64 1, .int .i64 st, .int .i64 (-1), .int .i64 0, .string ⟨#[]⟩, .string ⟨#[]⟩, .string ⟨t.toArray⟩, .slice none 0 0, .slice none 0 0, .slice none 0 0, .bool false, .string ⟨#[]⟩] 28)) w1.heap.size 28 [.int .i64 1, .int .i64 st, .int .i64 (-1), .int .i64 0, .string ⟨#[]⟩, .string ⟨#[]⟩, .string ⟨t.toArray⟩, .slice none 0 0, .slice none 0 0, .slice none 0 0, .bool false, .string ⟨#[]⟩] := Full.new w1 _ _
        generalize w1.alloc (.cells #[.int .i64 1, .int .i64 st, .int .i64 (-1), .int .i64 0, .string ⟨#[]⟩, .string ⟨#[]⟩, .string ⟨t.toArray⟩, .slice none 0 0, .slice none 0 0, .slice none 0 0, .bool false, .string ⟨#[]⟩] 28) = W at *
        generalize w1.heap.size = g at *
        obtain ⟨r0, r1, r2, r3, r4, r5, r6, r7, r8, r9, r10, r11⟩ := hN.c12
        clear hb1
        go_upto_region 11 with fail
        refine (hSt _ hA.env).mono ?_
        rintro e w2 ⟨rfl, hb2⟩
        have hA := hA.step hb2
        have hN := hN.below hb2 hN.lt
        clear r0 r1 r2 r3 r4 r5 r6 r7 r8 r9 r10 r11 hb2 hSc hSt
        obtain ⟨r0, r1, r2, r3, r4, r5, r6, r7, r8, r9, r10, r11⟩ := hN.c12
        go_upto_region 11 with fail
        go_cut [81] from 38 to 81 (fun s81 wx => s81 = .bool false ∧ At w wx)
        case first =>
          rcases HW.out with ⟨rfl, rfl⟩ | ⟨rfl, h1, ht, rfl⟩ | ⟨rfl, rfl, h4⟩ | h
          · clear HW
            go_wp2_with fail
            refine (hM1 _).mono ?_
            rintro e w3 ⟨rfl, hb3⟩
            have hA := hA.step hb3
            have hN := hN.below hb3 hN.lt
            clear r0 r1 r2 r3 r4 r5 r6 r7 r8 r9 r10 r11 hb3 hM1
            obtain ⟨r0, r1, r2, r3, r4, r5, r6, r7, r8, r9, r10, r11⟩ := hN.c12
            go_wp2_with fail
            refine (hM2 _).mono ?_
            rintro e w4 ⟨rfl, hb4⟩
            have hA := hA.step hb4
            have hN := hN.below hb4 hN.lt
            clear r0 r1 r2 r3 r4 r5 r6 r7 r8 r9 r10 r11 hb4 hM2
            obtain ⟨r0, r1, r2, r3, r4, r5, r6, r7, r8, r9, r10, r11⟩ := hN.c12
            go_wp2_with fail
            go_meet
            exact ⟨by first | rfl | exact congrArg Value.bool (decide_eq_false (by omega)), hA⟩
          · have g1 : ((st : Int) != 1) = true := by rw [bne_iff_ne]; omega
            have g0 : ((st : Int) == 1) = false := by rw [beq_eq_false_iff_ne]; omega
            clear HW h1 ht
            go_wp2_with fail
            refine (hM1 _).mono ?_
            rintro e w3 ⟨rfl, hb3⟩
            have hA := hA.step hb3
            have hN := hN.below hb3 hN.lt
            clear r0 r1 r2 r3 r4 r5 r6 r7 r8 r9 r10 r11 hb3 hM1
            obtain ⟨r0, r1, r2, r3, r4, r5, r6, r7, r8, r9, r10, r11⟩ := hN.c12
            go_wp2_with fail
            refine (hM2 _).mono ?_
            rintro e w4 ⟨rfl, hb4⟩
            have hA := hA.step hb4
            have hN := hN.below hb4 hN.lt
            clear r0 r1 r2 r3 r4 r5 r6 r7 r8 r9 r10 r11 hb4 hM2
            obtain ⟨r0, r1, r2, r3, r4, r5, r6, r7, r8, r9, r10, r11⟩ := hN.c12
            go_wp2_with fail
            go_meet
            exact ⟨by first | rfl | exact congrArg Value.bool (decide_eq_false (by omega)), hA⟩
          · clear HW
            go_wp2_with fail
            refine (hM1 _).mono ?_
            rintro e w3 ⟨rfl, hb3⟩
            have hA := hA.step hb3
            have hN := hN.below hb3 hN.lt
            clear r0 r1 r2 r3 r4 r5 r6 r7 r8 r9 r10 r11 hb3 hM1
            obtain ⟨r0, r1, r2, r3, r4, r5, r6, r7, r8, r9, r10, r11⟩ := hN.c12
            go_wp2_with fail
            refine (hM2 _).mono ?_
            rintro e w4 ⟨rfl, hb4⟩
            have hA := hA.step hb4
            have hN := hN.below hb4 hN.lt
            clear r0 r1 r2 r3 r4 r5 r6 r7 r8 r9 r10 r11 hb4 hM2
            obtain ⟨r0, r1, r2, r3, r4, r5, r6, r7, r8, r9, r10, r11⟩ := hN.c12
            go_wp2_with fail
            go_meet
            exact ⟨by first | rfl | exact congrArg Value.bool (decide_eq_false (by omega)), hA⟩
          · have g1 : ((T : Int) == 1) = false := by rw [beq_eq_false_iff_ne]; omega
            have g4 : ((T : Int) == 4) = false := by rw [beq_eq_false_iff_ne]; omega
            have g5 : ((T : Int) == 5) = false := by rw [beq_eq_false_iff_ne]; omega
            clear HW h
            go_wp2_with fail
            refine (hM1 _).mono ?_
            rintro e w3 ⟨rfl, hb3⟩
            have hA := hA.step hb3
            have hN := hN.below hb3 hN.lt
            clear r0 r1 r2 r3 r4 r5 r6 r7 r8 r9 r10 r11 hb3 hM1
            obtain ⟨r0, r1, r2, r3, r4, r5, r6, r7, r8, r9, r10, r11⟩ := hN.c12
            go_wp2_with fail
            refine (hM2 _).mono ?_
            rintro e w4 ⟨rfl, hb4⟩
            have hA := hA.step hb4
            have hN := hN.below hb4 hN.lt
            clear r0 r1 r2 r3 r4 r5 r6 r7 r8 r9 r10 r11 hb4 hM2
            obtain ⟨r0, r1, r2, r3, r4, r5, r6, r7, r8, r9, r10, r11⟩ := hN.c12
            go_wp2_with fail
            go_meet
            exact ⟨by first | rfl | exact congrArg Value.bool (decide_eq_false (by omega)), hA⟩
        case rest =>
          obtain ⟨rfl, hA⟩ := hcut
          go_wp2_with fail
          refine (hWd _).mono ?_
          rintro e w3 ⟨rfl, hb3⟩
          have hA := hA.step hb3
          go_wp2_with fail
          go_roundg (2 - (i + 1))
          case measure => omega
          case rel => exact ⟨i + 1, wd, by omega, rfl, rfl, by go_num, by omega, hA⟩
      · obtain rfl : i = 2 := by omega
        go_wp2_with fail
        refine (awake23_c _ hA.env).mono ?_
        rintro e w1 ⟨rfl, hb⟩
        go_wp2_with fail
        go_ret
        exact ⟨rfl, (hA.step hb).below⟩
  case true =>
    go_enter Tryz.func6, Tryz.ntmps6
    go_wp2_with fail
    go_loopg [0, 16] 2 (fun gk s0 s16 wr => ∃ (i : Nat) (t : List UInt8), i ≤ 2 ∧ gk = 2 - i ∧ s0 = .string ⟨t.toArray⟩ ∧ s16 = .int .i64 i ∧ t.length ≤ 80 ∧ At w wr)
    case atStart => exact ⟨0, l, Nat.zero_le _, rfl, rfl, rfl, hl80, hA⟩
    case round =>
      clear hA
      obtain ⟨i, t, hi, hgk, rfl, rfl, htl, hA⟩ := hrel
      by_cases hlt : i < 2
      · have hWd := fun w => pword_c n w
        have hwl := pword_len n
        generalize pword n = wd at *
        have hSc := fun w => hSc t [33, 116] w
        have hSt := fun w hE => style_c 1 (-1) 0 80 2 0 st [33, 116] t false false false false bare flow row w hE (by omega) (by omega)
        have hw := ways_p t st (!([33, 116] : List UInt8).isEmpty) false bare flow row
        have hm := means_same t st (!([33, 116] : List UInt8).isEmpty) false bare flow row
        have hM := fun k w h => means_c t k w (by omega) h
        generalize styleM t st (!([33, 116] : List UInt8).isEmpty) false bare flow row = T at *
        have hT5 : T ≤ 100 := by unfold WaysP at hw; omega
        have hM1 := fun w => hM st w (by omega)
        have hM2 := fun w => hM T w hT5
        rw [hm] at hM2
        generalize longOf (meansP t st) = mn at *
        clear hM hm
        unfold scCells at hSc hSt
        unfold cfCells at hSt
        have HW := Lib.hid hw
        clear hw
        go_upto_region 10 with (refine (hSc _).mono ?_; rintro e w1 ⟨rfl, hb1⟩)
        have hA := (hA.step hb1).alloc (.cells #[.int .i64 1, .int .i64 st, .int .i64 (-1), .int .i64 0, .string ⟨#[]⟩, .string ⟨#[33, 116]⟩, .string ⟨t.toArray⟩, .slice none 0 0, .slice none 0 0, .slice none 0 0, .bool false, .string ⟨#[]⟩] 28)
        have hN : Full (w1.alloc (.cells #[.int .i64 1, .int .i64 st, .int .i64 (-1), .int .i64 0, .string ⟨#[]⟩, .string ⟨#[33, 116]⟩, .string ⟨t.toArray⟩, .slice none 0 0, .slice none 0 0, .slice none 0 0, .bool false, .string ⟨#[]⟩] 28)) w1.heap.size 28 [.int .i64 1, .int .i64 st, .int .i64 (-1), .int .i64 0, .string ⟨#[]⟩, .string ⟨#[33, 116]⟩, .string ⟨t.toArray⟩, .slice none 0 0, .slice none 0 0, .slice none 0 0, .bool false, .string ⟨#[]⟩] := Full.new w1 _ _
        generalize w1.alloc (.cells #[.int .i64 1, .int .i64 st, .int .i64 (-1), .int .i64 0, .string ⟨#[]⟩, .string ⟨#[33, 116]⟩, .string ⟨t.toArray⟩, .slice none 0 0, .slice none 0 0, .slice none 0 0, .bool false, .string ⟨#[]⟩] 28) = W at *
        generalize w1.heap.size = g at *
        obtain ⟨r0, r1, r2, r3, r4, r5, r6, r7, r8, r9, r10, r11⟩ := hN.c12
        clear hb1
        go_upto_region 11 with fail
        refine (hSt _ hA.env).mono ?_
        rintro e w2 ⟨rfl, hb2⟩
        have hA := hA.step hb2
        have hN := hN.below hb2 hN.lt
        clear r0 r1 r2 r3 r4 r5 r6 r7 r8 r9 r10 r11 hb2 hSc hSt
        obtain ⟨r0, r1, r2, r3, r4, r5, r6, r7, r8, r9, r10, r11⟩ := hN.c12
        go_upto_region 11 with fail
        go_cut [81] from 38 to 81 (fun s81 wx => s81 = .bool false ∧ At w wx)
        case first =>
          rcases HW.out with ⟨rfl, rfl⟩ | ⟨rfl, h1, ht, rfl⟩ | ⟨rfl, rfl, h4⟩ | h
          · clear HW
            go_wp2_with fail
            go_meet
            exact ⟨by first | rfl | exact congrArg Value.bool (decide_eq_false (by omega)), hA⟩
          · exact absurd ht (by decide)
          · clear HW
            go_wp2_with fail
            go_meet
            exact ⟨by first | rfl | exact congrArg Value.bool (decide_eq_false (by omega)), hA⟩
          · have g1 : ((T : Int) == 1) = false := by rw [beq_eq_false_iff_ne]; omega
            have g4 : ((T : Int) == 4) = false := by rw [beq_eq_false_iff_ne]; omega
            have g5 : ((T : Int) == 5) = false := by rw [beq_eq_false_iff_ne]; omega
            clear HW h
            go_wp2_with fail
            go_meet
            exact ⟨by first | rfl | exact congrArg Value.bool (decide_eq_false (by omega)), hA⟩
        case rest =>
          obtain ⟨rfl, hA⟩ := hcut
          go_wp2_with fail
          refine (hWd _).mono ?_
          rintro e w3 ⟨rfl, hb3⟩
          have hA := hA.step hb3
          go_wp2_with fail
          go_roundg (2 - (i + 1))
          case measure => omega
          case rel => exact ⟨i + 1, wd, by omega, rfl, rfl, by go_num, by omega, hA⟩
      · obtain rfl : i = 2 := by omega
        go_wp2_with fail
        refine (awake23_c _ hA.env).mono ?_
        rintro e w1 ⟨rfl, hb⟩
        go_wp2_with fail
        go_ret
        exact ⟨rfl, (hA.step hb).below⟩
end Go.Proofs.YtjfgcbikdibjeaaGreatDoor
