/- PickQuoted: a scalar of code points is told in one row, and that is read as its text. -/
import Derived.Test.YtjfgcbikdibjeaaGreatDoorLawPick1
import Derived.Test.YtjfgcbikdibjeaaGreatDoorPAllB
import Derived.Test.YtjfgcbikdibjeaaGreatDoorWQuotF
namespace Go.Proofs.YtjfgcbikdibjeaaGreatDoor
open Go.RowKit U Go.Proofs

theorem quotIs2_c {l : List UInt8} {a n : Int} {t : List UInt8} {p e : Int} {one : Bool} (h : quotM l a n = (t, p, one, e)) (w : World) (hs : l.length ≤ 1000000) (ha0 : -9223372036854775808 ≤ a) (ha1 : a ≤ 9223372036854775807) (hn0 : -9223372036854775808 ≤ n) (hn1 : n ≤ 9223372036854775807) :
    Calls Tryz.prog 38 #[.string ⟨l.toArray⟩, .int .i64 a, .int .i64 n] w fun x w' => x = .returned (.tuple #[.string ⟨t.toArray⟩, .int .i64 p, .bool one, .int .i64 e]) ∧ Below w.heap.size w w' := by
  have := quotRead_c l a n w hs ha0 ha1 hn0 hn1
  rw [h] at this
  exact this
theorem Full.c8 {w : World} {g : Nat} {t : TypeId} {y0 y1 y2 y3 y4 y5 y6 y7 : Value} (h : Full w g t [y0, y1, y2, y3, y4, y5, y6, y7]) :
    w.cell? ⟨g, 0, none⟩ = some y0 ∧ w.cell? ⟨g, 1, none⟩ = some y1 ∧ w.cell? ⟨g, 2, none⟩ = some y2 ∧ w.cell? ⟨g, 3, none⟩ = some y3 ∧ w.cell? ⟨g, 4, none⟩ = some y4 ∧ w.cell? ⟨g, 5, none⟩ = some y5 ∧ w.cell? ⟨g, 6, none⟩ = some y6 ∧ w.cell? ⟨g, 7, none⟩ = some y7 :=
  ⟨h.cell 0, h.cell 1, h.cell 2, h.cell 3, h.cell 4, h.cell 5, h.cell 6, h.cell 7⟩
theorem styleM_le (t : List UInt8) (st : Nat) (tag single bare flow row : Bool) : styleM t st tag single bare flow row ≤ 4 := by
  unfold styleM
  repeat' split
  all_goals omega
set_option maxRecDepth 100000 in
set_option maxHeartbeats 16000000 in
theorem pickQuoted_c (l : List UInt8) (n : Int) (tag : Bool) (y : Int) (flow single bare : Bool) (w : World) (hE : Env w) (hTz : Tz w) (_hl : l.length ≤ 9223372036854775807) (_n1 : -9223372036854775808 ≤ n) (_n2 : n ≤ 9223372036854775807) (_y1 : -9223372036854775808 ≤ y) (_y2 : y ≤ 9223372036854775807) :
    Calls Tryz.prog 11 #[.string ⟨l.toArray⟩, .int .i64 n, .bool tag, .int .i64 y, .bool flow, .bool single, .bool bare] w fun e w' => e = .returned (.bool true) ∧ Below w.heap.size w w' := by
  have hA := At.refl hE
  by_cases h80 : 80 < l.length
  · go_enter Tryz.func11, Tryz.ntmps11
    go_wp2_with fail
    refine (awake23_c _ hE).mono ?_
    rintro e w1 ⟨rfl, hb⟩
    go_wp2_with fail
    go_ret
    exact ⟨rfl, hb⟩
  have hl80 : l.length ≤ 80 := by omega
  clear h80 _hl
  have hst := styleOf_le y
  have hSc := fun t tg w => scalar23_c t tg y w
  generalize styleOf y = st at *
  have HTZ := Lib.hid hTz
  clear hTz
  cases tag
  case false =>
    go_enter Tryz.func11, Tryz.ntmps11
    go_wp2_with fail
    have hA := hA.alloc (.cells #[.int .i64 80, .int .i64 2, .int .i64 0, .bool single, .bool false, .bool false, .bool false, .bool bare] 24)
    have hC : Full (w.alloc (.cells #[.int .i64 80, .int .i64 2, .int .i64 0, .bool single, .bool false, .bool false, .bool false, .bool bare] 24)) w.heap.size 24 [.int .i64 80, .int .i64 2, .int .i64 0, .bool single, .bool false, .bool false, .bool false, .bool bare] := Full.new w _ _
    generalize w.alloc (.cells #[.int .i64 80, .int .i64 2, .int .i64 0, .bool single, .bool false, .bool false, .bool false, .bool bare] 24) = W0 at *
    obtain ⟨gc, hgc⟩ : ∃ gc, gc = w.heap.size := ⟨_, rfl⟩
    rw [← hgc] at hC
    rw [← hgc]
    clear hgc
    go_loopg [0, 17] 2 (fun gk s0 s17 wr => ∃ (i : Nat) (t : List UInt8), i ≤ 2 ∧ gk = 2 - i ∧ s0 = .string ⟨t.toArray⟩ ∧ s17 = .int .i64 i ∧ t.length ≤ 80 ∧ At w wr ∧ Full wr gc 24 [.int .i64 80, .int .i64 2, .int .i64 0, .bool single, .bool false, .bool false, .bool false, .bool bare])
    case atStart => exact ⟨0, l, Nat.zero_le _, rfl, rfl, rfl, hl80, hA, hC⟩
    case round =>
      clear hA hC
      obtain ⟨i, t, hi, hgk, rfl, rfl, htl, hA, hC⟩ := hrel
      by_cases hlt : i < 2
      · have hWd := fun w => pword_c n w
        have hwl := pword_len n
        generalize pword n = wd at *
        have hSc := fun w => hSc t [] w
        have hSh := fun w hE hT => pshow_c 1 (-1) 0 80 2 0 st [] t single false false false bare flow w hE (by omega) (by omega) hT
        have hSt := fun w hE => style_c 1 (-1) 0 80 2 0 st [] t single false false false bare flow true w hE (by omega) (by omega)
        have hPc := fun w hE => place_c t w hE (by omega)
        have hPl := fun w hE => pplain_c t flow w hE (by omega)
        have hq := quoted_p t st (!([] : List UInt8).isEmpty) single bare flow
        have hol := showP_len t st (!([] : List UInt8).isEmpty) single bare flow
        have hT4 := styleM_le t st (!([] : List UInt8).isEmpty) single bare flow true
        generalize showP t st (!([] : List UInt8).isEmpty) single bare flow = o at *
        generalize styleM t st (!([] : List UInt8).isEmpty) single bare flow true = T at *
        have hpg := place_ge t
        generalize place t = pl at *
        have hol2 : o.length ≤ 1000 := by omega
        unfold scCells at hSc hSt hSh
        unfold cfCells at hSt hSh
        have HQ := Lib.hid hq
        clear hq hol
        go_upto_region 11 with fail
        refine (hSc _).mono ?_
        rintro e w1 ⟨rfl, hb1⟩
        go_upto_region 11 with fail
        have hA := hA.step hb1
        have hC := hC.below hb1 hC.lt
        have hA := hA.alloc (.cells #[.int .i64 1, .int .i64 st, .int .i64 (-1), .int .i64 0, .string ⟨#[]⟩, .string ⟨#[]⟩, .string ⟨t.toArray⟩, .slice none 0 0, .slice none 0 0, .slice none 0 0, .bool false, .string ⟨#[]⟩] 28)
        have hC : Full (w1.alloc (.cells #[.int .i64 1, .int .i64 st, .int .i64 (-1), .int .i64 0, .string ⟨#[]⟩, .string ⟨#[]⟩, .string ⟨t.toArray⟩, .slice none 0 0, .slice none 0 0, .slice none 0 0, .bool false, .string ⟨#[]⟩] 28)) gc 24 [.int .i64 80, .int .i64 2, .int .i64 0, .bool single, .bool false, .bool false, .bool false, .bool bare] := hC.alloc _
        have hN : Full (w1.alloc (.cells #[.int .i64 1, .int .i64 st, .int .i64 (-1), .int .i64 0, .string ⟨#[]⟩, .string ⟨#[]⟩, .string ⟨t.toArray⟩, .slice none 0 0, .slice none 0 0, .slice none 0 0, .bool false, .string ⟨#[]⟩] 28)) w1.heap.size 28 [.int .i64 1, .int .i64 st, .int .i64 (-1), .int .i64 0, .string ⟨#[]⟩, .string ⟨#[]⟩, .string ⟨t.toArray⟩, .slice none 0 0, .slice none 0 0, .slice none 0 0, .bool false, .string ⟨#[]⟩] := Full.new w1 _ _
        generalize w1.alloc (.cells #[.int .i64 1, .int .i64 st, .int .i64 (-1), .int .i64 0, .string ⟨#[]⟩, .string ⟨#[]⟩, .string ⟨t.toArray⟩, .slice none 0 0, .slice none 0 0, .slice none 0 0, .bool false, .string ⟨#[]⟩] 28) = W at *
        generalize w1.heap.size = g at *
        obtain ⟨r0, r1, r2, r3, r4, r5, r6, r7, r8, r9, r10, r11⟩ := hN.c12
        obtain ⟨z0, z1, z2, z3, z4, z5, z6, z7⟩ := hC.c8
        clear hb1
        go_upto_region 12 with fail
        refine (hSh _ hA.env (fun _ => HTZ.out.below hA.below)).mono ?_
        rintro e w2 ⟨rfl, hb2⟩
        have hA := hA.step hb2
        have hC := hC.below hb2 hC.lt
        have hN := hN.below hb2 hN.lt
        clear r0 r1 r2 r3 r4 r5 r6 r7 r8 r9 r10 r11 z0 z1 z2 z3 z4 z5 z6 z7 hb2 hSc hSh
        obtain ⟨r0, r1, r2, r3, r4, r5, r6, r7, r8, r9, r10, r11⟩ := hN.c12
        obtain ⟨z0, z1, z2, z3, z4, z5, z6, z7⟩ := hC.c8
        go_upto_region 12 with fail
        go_upto_region 13 with fail
        refine (hSt _ hA.env).mono ?_
        rintro e w2 ⟨rfl, hb2⟩
        have hA := hA.step hb2
        have hC := hC.below hb2 hC.lt
        clear r0 r1 r2 r3 r4 r5 r6 r7 r8 r9 r10 r11 z0 z1 z2 z3 z4 z5 z6 z7 hb2 hN hSt
        by_cases hp : pl = -1
        case neg =>
          have hp0 : 0 ≤ pl := by omega
          clear HQ hPl hp hpg
          go_wp2_with fail
          refine (hPc _ hA.env).mono ?_
          rintro e w3 ⟨rfl, hb3⟩
          have hA := hA.step hb3
          have hC := hC.below hb3 hC.lt
          clear hb3 hPc
          go_wp2_with fail
          refine (hWd _).mono ?_
          rintro e w3 ⟨rfl, hb3⟩
          have hA := hA.step hb3
          have hC := hC.below hb3 hC.lt
          go_wp2_with fail
          go_roundg (2 - (i + 1))
          case measure => omega
          case rel => exact ⟨i + 1, wd, by omega, rfl, rfl, by go_num, by omega, hA, hC⟩
        case pos =>
          have hq := HQ.out hp
          subst hp
          clear HQ hpg
          rcases hq with ⟨rfl, rfl, h⟩ | ⟨hT, ho1, hob, hqm⟩
          · by_cases h0 : o = []
            · subst h0
              clear hPl h
              go_wp2_with fail
              refine (hPc _ hA.env).mono ?_
              rintro e w3 ⟨rfl, hb3⟩
              have hA := hA.step hb3
              have hC := hC.below hb3 hC.lt
              clear hb3 hPc
              go_wp2_with fail
              refine (hWd _).mono ?_
              rintro e w3 ⟨rfl, hb3⟩
              have hA := hA.step hb3
              have hC := hC.below hb3 hC.lt
              go_wp2_with fail
              go_roundg (2 - (i + 1))
              case measure => omega
              case rel => exact ⟨i + 1, wd, by omega, rfl, rfl, by go_num, by omega, hA, hC⟩
            · have hpl := h.resolve_left h0
              rw [hpl] at hPl
              have g0 : (o == []) = false := by cases o with | nil => exact absurd rfl h0 | cons _ _ => rfl
              have g1 : (o != []) = true := by cases o with | nil => exact absurd rfl h0 | cons _ _ => rfl
              clear h hpl h0
              go_wp2_with fail
              refine (hPc _ hA.env).mono ?_
              rintro e w3 ⟨rfl, hb3⟩
              have hA := hA.step hb3
              have hC := hC.below hb3 hC.lt
              clear hb3 hPc
              go_wp2_with fail
              refine (hPl _ hA.env).mono ?_
              rintro e w3 ⟨rfl, hb3⟩
              have hA := hA.step hb3
              have hC := hC.below hb3 hC.lt
              clear hb3 hPl
              go_wp2_with fail
              refine (hWd _).mono ?_
              rintro e w3 ⟨rfl, hb3⟩
              have hA := hA.step hb3
              have hC := hC.below hb3 hC.lt
              go_wp2_with fail
              go_roundg (2 - (i + 1))
              case measure => omega
              case rel => exact ⟨i + 1, wd, by omega, rfl, rfl, by go_num, by omega, hA, hC⟩
          · have hRd := fun w => quotIs2_c hqm w (by omega) (by omega) (by omega) (by omega) (by omega)
            have go0 : ((o.length : Int) == 0) = false := by rw [beq_eq_false_iff_ne]; omega
            have hb0 := byt_lt o 0
            clear hqm hPl
            rcases hT with rfl | rfl
            · have g39 : ((byt o 0 : Int) == 39) = true := by rw [hob]; rfl
              clear hob
              go_wp2_with fail
              refine (hPc _ hA.env).mono ?_
              rintro e w3 ⟨rfl, hb3⟩
              have hA := hA.step hb3
              have hC := hC.below hb3 hC.lt
              clear hb3 hPc
              go_wp2_with fail
              refine (hRd _).mono ?_
              rintro e w3 ⟨rfl, hb3⟩
              have hA := hA.step hb3
              have hC := hC.below hb3 hC.lt
              clear hb3 hRd
              go_wp2_with fail
              refine (hWd _).mono ?_
              rintro e w3 ⟨rfl, hb3⟩
              have hA := hA.step hb3
              have hC := hC.below hb3 hC.lt
              go_wp2_with fail
              go_roundg (2 - (i + 1))
              case measure => omega
              case rel => exact ⟨i + 1, wd, by omega, rfl, rfl, by go_num, by omega, hA, hC⟩
            · have g39 : ((byt o 0 : Int) == 39) = false := by rw [hob]; rfl
              clear hob
              go_wp2_with fail
              refine (hPc _ hA.env).mono ?_
              rintro e w3 ⟨rfl, hb3⟩
              have hA := hA.step hb3
              have hC := hC.below hb3 hC.lt
              clear hb3 hPc
              go_wp2_with fail
              refine (hRd _).mono ?_
              rintro e w3 ⟨rfl, hb3⟩
              have hA := hA.step hb3
              have hC := hC.below hb3 hC.lt
              clear hb3 hRd
              go_wp2_with fail
              refine (hWd _).mono ?_
              rintro e w3 ⟨rfl, hb3⟩
              have hA := hA.step hb3
              have hC := hC.below hb3 hC.lt
              go_wp2_with fail
              go_roundg (2 - (i + 1))
              case measure => omega
              case rel => exact ⟨i + 1, wd, by omega, rfl, rfl, by go_num, by omega, hA, hC⟩
      · obtain rfl : i = 2 := by omega
        go_wp2_with fail
        refine (awake23_c _ hA.env).mono ?_
        rintro e w1 ⟨rfl, hb⟩
        go_wp2_with fail
        go_ret
        exact ⟨rfl, (hA.step hb).below⟩
  case true =>
    go_enter Tryz.func11, Tryz.ntmps11
    go_wp2_with fail
    have hA := hA.alloc (.cells #[.int .i64 80, .int .i64 2, .int .i64 0, .bool single, .bool false, .bool false, .bool false, .bool bare] 24)
    have hC : Full (w.alloc (.cells #[.int .i64 80, .int .i64 2, .int .i64 0, .bool single, .bool false, .bool false, .bool false, .bool bare] 24)) w.heap.size 24 [.int .i64 80, .int .i64 2, .int .i64 0, .bool single, .bool false, .bool false, .bool false, .bool bare] := Full.new w _ _
    generalize w.alloc (.cells #[.int .i64 80, .int .i64 2, .int .i64 0, .bool single, .bool false, .bool false, .bool false, .bool bare] 24) = W0 at *
    obtain ⟨gc, hgc⟩ : ∃ gc, gc = w.heap.size := ⟨_, rfl⟩
    rw [← hgc] at hC
    rw [← hgc]
    clear hgc
    go_loopg [0, 17] 2 (fun gk s0 s17 wr => ∃ (i : Nat) (t : List UInt8), i ≤ 2 ∧ gk = 2 - i ∧ s0 = .string ⟨t.toArray⟩ ∧ s17 = .int .i64 i ∧ t.length ≤ 80 ∧ At w wr ∧ Full wr gc 24 [.int .i64 80, .int .i64 2, .int .i64 0, .bool single, .bool false, .bool false, .bool false, .bool bare])
    case atStart => exact ⟨0, l, Nat.zero_le _, rfl, rfl, rfl, hl80, hA, hC⟩
    case round =>
      clear hA hC
      obtain ⟨i, t, hi, hgk, rfl, rfl, htl, hA, hC⟩ := hrel
      by_cases hlt : i < 2
      · have hWd := fun w => pword_c n w
        have hwl := pword_len n
        generalize pword n = wd at *
        have hSc := fun w => hSc t [33, 116] w
        have hSh := fun w hE hT => pshow_c 1 (-1) 0 80 2 0 st [33, 116] t single false false false bare flow w hE (by omega) (by omega) hT
        have hSt := fun w hE => style_c 1 (-1) 0 80 2 0 st [33, 116] t single false false false bare flow true w hE (by omega) (by omega)
        have hPc := fun w hE => place_c t w hE (by omega)
        have hPl := fun w hE => pplain_c t flow w hE (by omega)
        have hq := quoted_p t st (!([33, 116] : List UInt8).isEmpty) single bare flow
        have hol := showP_len t st (!([33, 116] : List UInt8).isEmpty) single bare flow
        have hT4 := styleM_le t st (!([33, 116] : List UInt8).isEmpty) single bare flow true
        generalize showP t st (!([33, 116] : List UInt8).isEmpty) single bare flow = o at *
        generalize styleM t st (!([33, 116] : List UInt8).isEmpty) single bare flow true = T at *
        have hpg := place_ge t
        generalize place t = pl at *
        have hol2 : o.length ≤ 1000 := by omega
        unfold scCells at hSc hSt hSh
        unfold cfCells at hSt hSh
        have HQ := Lib.hid hq
        clear hq hol
        go_upto_region 11 with fail
        refine (hSc _).mono ?_
        rintro e w1 ⟨rfl, hb1⟩
        go_upto_region 11 with fail
        have hA := hA.step hb1
        have hC := hC.below hb1 hC.lt
        have hA := hA.alloc (.cells #[.int .i64 1, .int .i64 st, .int .i64 (-1), .int .i64 0, .string ⟨#[]⟩, .string ⟨#[33, 116]⟩, .string ⟨t.toArray⟩, .slice none 0 0, .slice none 0 0, .slice none 0 0, .bool false, .string ⟨#[]⟩] 28)
        have hC : Full (w1.alloc (.cells #[.int .i64 1, .int .i64 st, .int .i64 (-1), .int .i64 0, .string ⟨#[]⟩, .string ⟨#[33, 116]⟩, .string ⟨t.toArray⟩, .slice none 0 0, .slice none 0 0, .slice none 0 0, .bool false, .string ⟨#[]⟩] 28)) gc 24 [.int .i64 80, .int .i64 2, .int .i64 0, .bool single, .bool false, .bool false, .bool false, .bool bare] := hC.alloc _
        have hN : Full (w1.alloc (.cells #[.int .i64 1, .int .i64 st, .int .i64 (-1), .int .i64 0, .string ⟨#[]⟩, .string ⟨#[33, 116]⟩, .string ⟨t.toArray⟩, .slice none 0 0, .slice none 0 0, .slice none 0 0, .bool false, .string ⟨#[]⟩] 28)) w1.heap.size 28 [.int .i64 1, .int .i64 st, .int .i64 (-1), .int .i64 0, .string ⟨#[]⟩, .string ⟨#[33, 116]⟩, .string ⟨t.toArray⟩, .slice none 0 0, .slice none 0 0, .slice none 0 0, .bool false, .string ⟨#[]⟩] := Full.new w1 _ _
        generalize w1.alloc (.cells #[.int .i64 1, .int .i64 st, .int .i64 (-1), .int .i64 0, .string ⟨#[]⟩, .string ⟨#[33, 116]⟩, .string ⟨t.toArray⟩, .slice none 0 0, .slice none 0 0, .slice none 0 0, .bool false, .string ⟨#[]⟩] 28) = W at *
        generalize w1.heap.size = g at *
        obtain ⟨r0, r1, r2, r3, r4, r5, r6, r7, r8, r9, r10, r11⟩ := hN.c12
        obtain ⟨z0, z1, z2, z3, z4, z5, z6, z7⟩ := hC.c8
        clear hb1
        go_upto_region 12 with fail
        refine (hSh _ hA.env (fun _ => HTZ.out.below hA.below)).mono ?_
        rintro e w2 ⟨rfl, hb2⟩
        have hA := hA.step hb2
        have hC := hC.below hb2 hC.lt
        have hN := hN.below hb2 hN.lt
        clear r0 r1 r2 r3 r4 r5 r6 r7 r8 r9 r10 r11 z0 z1 z2 z3 z4 z5 z6 z7 hb2 hSc hSh
        obtain ⟨r0, r1, r2, r3, r4, r5, r6, r7, r8, r9, r10, r11⟩ := hN.c12
        obtain ⟨z0, z1, z2, z3, z4, z5, z6, z7⟩ := hC.c8
        go_upto_region 12 with fail
        go_upto_region 13 with fail
        refine (hSt _ hA.env).mono ?_
        rintro e w2 ⟨rfl, hb2⟩
        have hA := hA.step hb2
        have hC := hC.below hb2 hC.lt
        clear r0 r1 r2 r3 r4 r5 r6 r7 r8 r9 r10 r11 z0 z1 z2 z3 z4 z5 z6 z7 hb2 hN hSt
        by_cases hp : pl = -1
        case neg =>
          have hp0 : 0 ≤ pl := by omega
          clear HQ hPl hp hpg
          go_wp2_with fail
          refine (hPc _ hA.env).mono ?_
          rintro e w3 ⟨rfl, hb3⟩
          have hA := hA.step hb3
          have hC := hC.below hb3 hC.lt
          clear hb3 hPc
          go_wp2_with fail
          refine (hWd _).mono ?_
          rintro e w3 ⟨rfl, hb3⟩
          have hA := hA.step hb3
          have hC := hC.below hb3 hC.lt
          go_wp2_with fail
          go_roundg (2 - (i + 1))
          case measure => omega
          case rel => exact ⟨i + 1, wd, by omega, rfl, rfl, by go_num, by omega, hA, hC⟩
        case pos =>
          have hq := HQ.out hp
          subst hp
          clear HQ hpg
          rcases hq with ⟨rfl, rfl, h⟩ | ⟨hT, ho1, hob, hqm⟩
          · by_cases h0 : o = []
            · subst h0
              clear hPl h
              go_wp2_with fail
              refine (hPc _ hA.env).mono ?_
              rintro e w3 ⟨rfl, hb3⟩
              have hA := hA.step hb3
              have hC := hC.below hb3 hC.lt
              clear hb3 hPc
              go_wp2_with fail
              refine (hWd _).mono ?_
              rintro e w3 ⟨rfl, hb3⟩
              have hA := hA.step hb3
              have hC := hC.below hb3 hC.lt
              go_wp2_with fail
              go_roundg (2 - (i + 1))
              case measure => omega
              case rel => exact ⟨i + 1, wd, by omega, rfl, rfl, by go_num, by omega, hA, hC⟩
            · have hpl := h.resolve_left h0
              rw [hpl] at hPl
              have g0 : (o == []) = false := by cases o with | nil => exact absurd rfl h0 | cons _ _ => rfl
              have g1 : (o != []) = true := by cases o with | nil => exact absurd rfl h0 | cons _ _ => rfl
              clear h hpl h0
              go_wp2_with fail
              refine (hPc _ hA.env).mono ?_
              rintro e w3 ⟨rfl, hb3⟩
              have hA := hA.step hb3
              have hC := hC.below hb3 hC.lt
              clear hb3 hPc
              go_wp2_with fail
              refine (hPl _ hA.env).mono ?_
              rintro e w3 ⟨rfl, hb3⟩
              have hA := hA.step hb3
              have hC := hC.below hb3 hC.lt
              clear hb3 hPl
              go_wp2_with fail
              refine (hWd _).mono ?_
              rintro e w3 ⟨rfl, hb3⟩
              have hA := hA.step hb3
              have hC := hC.below hb3 hC.lt
              go_wp2_with fail
              go_roundg (2 - (i + 1))
              case measure => omega
              case rel => exact ⟨i + 1, wd, by omega, rfl, rfl, by go_num, by omega, hA, hC⟩
          · have hRd := fun w => quotIs2_c hqm w (by omega) (by omega) (by omega) (by omega) (by omega)
            have go0 : ((o.length : Int) == 0) = false := by rw [beq_eq_false_iff_ne]; omega
            have hb0 := byt_lt o 0
            clear hqm hPl
            rcases hT with rfl | rfl
            · have g39 : ((byt o 0 : Int) == 39) = true := by rw [hob]; rfl
              clear hob
              go_wp2_with fail
              refine (hPc _ hA.env).mono ?_
              rintro e w3 ⟨rfl, hb3⟩
              have hA := hA.step hb3
              have hC := hC.below hb3 hC.lt
              clear hb3 hPc
              go_wp2_with fail
              refine (hRd _).mono ?_
              rintro e w3 ⟨rfl, hb3⟩
              have hA := hA.step hb3
              have hC := hC.below hb3 hC.lt
              clear hb3 hRd
              go_wp2_with fail
              refine (hWd _).mono ?_
              rintro e w3 ⟨rfl, hb3⟩
              have hA := hA.step hb3
              have hC := hC.below hb3 hC.lt
              go_wp2_with fail
              go_roundg (2 - (i + 1))
              case measure => omega
              case rel => exact ⟨i + 1, wd, by omega, rfl, rfl, by go_num, by omega, hA, hC⟩
            · have g39 : ((byt o 0 : Int) == 39) = false := by rw [hob]; rfl
              clear hob
              go_wp2_with fail
              refine (hPc _ hA.env).mono ?_
              rintro e w3 ⟨rfl, hb3⟩
              have hA := hA.step hb3
              have hC := hC.below hb3 hC.lt
              clear hb3 hPc
              go_wp2_with fail
              refine (hRd _).mono ?_
              rintro e w3 ⟨rfl, hb3⟩
              have hA := hA.step hb3
              have hC := hC.below hb3 hC.lt
              clear hb3 hRd
              go_wp2_with fail
              refine (hWd _).mono ?_
              rintro e w3 ⟨rfl, hb3⟩
              have hA := hA.step hb3
              have hC := hC.below hb3 hC.lt
              go_wp2_with fail
              go_roundg (2 - (i + 1))
              case measure => omega
              case rel => exact ⟨i + 1, wd, by omega, rfl, rfl, by go_num, by omega, hA, hC⟩
      · obtain rfl : i = 2 := by omega
        go_wp2_with fail
        refine (awake23_c _ hA.env).mono ?_
        rintro e w1 ⟨rfl, hb⟩
        go_wp2_with fail
        go_ret
        exact ⟨rfl, (hA.step hb).below⟩
end Go.Proofs.YtjfgcbikdibjeaaGreatDoor
