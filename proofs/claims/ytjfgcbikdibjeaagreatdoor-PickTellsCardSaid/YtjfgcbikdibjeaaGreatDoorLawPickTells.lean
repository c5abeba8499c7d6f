/- PickTells: whether any text may stand plain, or in rows, which style a scalar has, and how it is told in one row, are the document's. -/
import Derived.Test.YtjfgcbikdibjeaaGreatDoorLawPick1
import Derived.Test.YtjfgcbikdibjeaaGreatDoorWRefPick3
import Derived.Deep.RegionHeld3
namespace Go.Proofs.YtjfgcbikdibjeaaGreatDoor
open Go.RowKit U Go.Proofs

/-- The world since a scalar was made. -/
def SinceP (w0 W w : World) : Prop := At w0 w ∧ Below W.heap.size W w
theorem SinceP.drew {w0 W w : World} (h : SinceP w0 W w) : SinceP w0 W w.drew := ⟨h.1.drewN 1, h.2.drew⟩
theorem SinceP.step {w0 W w w' : World} (h : SinceP w0 W w) (hb : Below w.heap.size w w') : SinceP w0 W w' := ⟨h.1.step hb, h.2.trans (hb.mono h.2.size)⟩
theorem keepP {w W w' : World} {g gc : Nat} {y0 y1 y2 y3 y4 y5 y6 y7 y8 y9 y10 y11 z0 z1 z2 z3 z4 z5 z6 z7 : Value} (hs : SinceP w W w') (H : Hid (Full W g 28 [y0, y1, y2, y3, y4, y5, y6, y7, y8, y9, y10, y11] ∧ Full W gc 24 [z0, z1, z2, z3, z4, z5, z6, z7])) :
    SinceP w W w' ∧ w'.cell? ⟨g, 0, none⟩ = some y0 ∧ w'.cell? ⟨g, 1, none⟩ = some y1 ∧ w'.cell? ⟨g, 2, none⟩ = some y2 ∧ w'.cell? ⟨g, 3, none⟩ = some y3 ∧ w'.cell? ⟨g, 4, none⟩ = some y4 ∧ w'.cell? ⟨g, 5, none⟩ = some y5 ∧ w'.cell? ⟨g, 6, none⟩ = some y6 ∧ w'.cell? ⟨g, 7, none⟩ = some y7 ∧ w'.cell? ⟨g, 8, none⟩ = some y8 ∧ w'.cell? ⟨g, 9, none⟩ = some y9 ∧ w'.cell? ⟨g, 10, none⟩ = some y10 ∧ w'.cell? ⟨g, 11, none⟩ = some y11 ∧ w'.cell? ⟨gc, 0, none⟩ = some z0 ∧ w'.cell? ⟨gc, 1, none⟩ = some z1 ∧ w'.cell? ⟨gc, 2, none⟩ = some z2 ∧ w'.cell? ⟨gc, 3, none⟩ = some z3 ∧ w'.cell? ⟨gc, 4, none⟩ = some z4 ∧ w'.cell? ⟨gc, 5, none⟩ = some z5 ∧ w'.cell? ⟨gc, 6, none⟩ = some z6 ∧ w'.cell? ⟨gc, 7, none⟩ = some z7 := by
  have hN := H.out.1.below hs.2 H.out.1.lt
  have hC := H.out.2.below hs.2 H.out.2.lt
  exact ⟨hs, hN.cell 0, hN.cell 1, hN.cell 2, hN.cell 3, hN.cell 4, hN.cell 5, hN.cell 6, hN.cell 7, hN.cell 8, hN.cell 9, hN.cell 10, hN.cell 11, hC.cell 0, hC.cell 1, hC.cell 2, hC.cell 3, hC.cell 4, hC.cell 5, hC.cell 6, hC.cell 7⟩
set_option maxRecDepth 100000 in
set_option maxHeartbeats 16000000 in
theorem pickTells_c (l : List UInt8) (n : Int) (tag : Bool) (y : Int) (flow row single bare : Bool) (w : World) (hE : Env w) (hTz : Tz w) (_hl : l.length ≤ 9223372036854775807) (_n1 : -9223372036854775808 ≤ n) (_n2 : n ≤ 9223372036854775807) (_y1 : -9223372036854775808 ≤ y) (_y2 : y ≤ 9223372036854775807) :
    Calls Tryz.prog 3 #[.string ⟨l.toArray⟩, .int .i64 n, .bool tag, .int .i64 y, .bool flow, .bool row, .bool single, .bool bare] w fun e w' => e = .returned (.bool true) ∧ Below w.heap.size w w' := by
  have hA := At.refl hE
  by_cases h80 : 100 < l.length
  · go_enter Tryz.func3, Tryz.ntmps3
    go_wp2_with fail
    refine (awake23_c _ hE).mono ?_
    rintro e w1 ⟨rfl, hb⟩
    go_wp2_with fail
    go_ret
    exact ⟨rfl, hb⟩
  have hl80 : l.length ≤ 100 := by omega
  clear h80 _hl
  have hst := styleOf_le y
  have hSc := fun t tg w => scalar23_c t tg y w
  generalize styleOf y = st at *
  have HTZ := Lib.hid hTz
  clear hTz
  cases tag
  case false =>
    go_enter Tryz.func3, Tryz.ntmps3
    go_wp2_with fail
    have hA := hA.alloc (.cells #[.int .i64 80, .int .i64 2, .int .i64 0, .bool single, .bool false, .bool false, .bool false, .bool bare] 24)
    have hC : Full (w.alloc (.cells #[.int .i64 80, .int .i64 2, .int .i64 0, .bool single, .bool false, .bool false, .bool false, .bool bare] 24)) w.heap.size 24 [.int .i64 80, .int .i64 2, .int .i64 0, .bool single, .bool false, .bool false, .bool false, .bool bare] := Full.new w _ _
    generalize w.alloc (.cells #[.int .i64 80, .int .i64 2, .int .i64 0, .bool single, .bool false, .bool false, .bool false, .bool bare] 24) = W0 at *
    obtain ⟨gc, hgc⟩ : ∃ gc, gc = w.heap.size := ⟨_, rfl⟩
    rw [← hgc] at hC
    rw [← hgc]
    clear hgc
    go_loopg [0, 19] 2 (fun gk s0 s19 wr => ∃ (i : Nat) (t : List UInt8), i ≤ 2 ∧ gk = 2 - i ∧ s0 = .string ⟨t.toArray⟩ ∧ s19 = .int .i64 i ∧ t.length ≤ 100 ∧ At w wr ∧ Full wr gc 24 [.int .i64 80, .int .i64 2, .int .i64 0, .bool single, .bool false, .bool false, .bool false, .bool bare])
    case atStart => exact ⟨0, l, Nat.zero_le _, rfl, rfl, rfl, hl80, hA, hC⟩
    case round =>
      clear hA hC
      obtain ⟨i, t, hi, hgk, rfl, rfl, htl, hA, hC⟩ := hrel
      by_cases hlt : i < 2
      · have hWd := fun w => pword_c n w
        have hwl := pword_len n
        generalize pword n = wd at *
        have hSc := fun w => hSc t [] w
        have hPa := fun w hE => pplain_c t flow w hE (by omega)
        have hPb := fun w => rplain22_c t flow w (by omega)
        have hLa := fun w hE => literal_c t w hE (by omega)
        have hLb := fun w => rliteral22_c t w (by omega)
        have hTa := fun w hE => style_c 1 (-1) 0 80 2 0 st [] t single false false false bare flow row w hE (by omega) (by omega)
        have hTb := fun w hE => rstyle22_c 1 (-1) 0 80 2 0 st [] t single false false false bare flow row w hE (by omega) (by omega)
        have hSa := fun w hE hT => pshow_c 1 (-1) 0 80 2 0 st [] t single false false false bare flow w hE (by omega) (by omega) hT
        have hSb := fun w hE => rscalar22_c 1 (-1) 0 80 2 0 st [] t single false false false bare flow w hE (by omega) (by omega)
        generalize showP t st (!([] : List UInt8).isEmpty) single bare flow = o at *
        generalize styleM t st (!([] : List UInt8).isEmpty) single bare flow true = T1 at *
        generalize styleM t st (!([] : List UInt8).isEmpty) single bare flow row = T at *
        generalize plainM t flow = P at *
        generalize literalM t = L at *
        unfold scCells at hSc hTa hTb hSa hSb
        unfold cfCells at hTa hTb hSa hSb
        go_upto_region 11 with fail
        refine (hSc _).mono ?_
        rintro e w1 ⟨rfl, hb1⟩
        go_upto_region 11 with fail
        have hA := hA.step hb1
        have hC := hC.below hb1 hC.lt
        have hA := hA.alloc (.cells #[.int .i64 1, .int .i64 st, .int .i64 (-1), .int .i64 0, .string ⟨#[]⟩, .string ⟨#[]⟩, .string ⟨t.toArray⟩, .slice none 0 0, .slice none 0 0, .slice none 0 0, .bool false, .string ⟨#[]⟩] 28)
        have hC : Full (w1.alloc (.cells #[.int .i64 1, .int .i64 st, .int .i64 (-1), .int .i64 0, .string ⟨#[]⟩, .string ⟨#[]⟩, .string ⟨t.toArray⟩, .slice none 0 0, .slice none 0 0, .slice none 0 0, .bool false, .string ⟨#[]⟩] 28)) gc 24 [.int .i64 80, .int .i64 2, .int .i64 0, .bool single, .bool false, .bool false, .bool false, .bool bare] := hC.alloc _
        have hN : Full (w1.alloc (.cells #[.int .i64 1, .int .i64 st, .int .i64 (-1), .int .i64 0, .string ⟨#[]⟩, .string ⟨#[]⟩, .string ⟨t.toArray⟩, .slice none 0 0, .slice none 0 0, .slice none 0 0, .bool false, .string ⟨#[]⟩] 28)) w1.heap.size 28 [.int .i64 1, .int .i64 st, .int .i64 (-1), .int .i64 0, .string ⟨#[]⟩, .string ⟨#[]⟩, .string ⟨t.toArray⟩, .slice none 0 0, .slice none 0 0, .slice none 0 0, .bool false, .string ⟨#[]⟩] := Full.new w1 _ _
        generalize w1.alloc (.cells #[.int .i64 1, .int .i64 st, .int .i64 (-1), .int .i64 0, .string ⟨#[]⟩, .string ⟨#[]⟩, .string ⟨t.toArray⟩, .slice none 0 0, .slice none 0 0, .slice none 0 0, .bool false, .string ⟨#[]⟩] 28) = W at *
        generalize w1.heap.size = g at *
        clear hb1 hSc
        have HK := Lib.hid (And.intro hN hC)
        have hS : SinceP w W W := ⟨hA, Below.refl _ _⟩
        have hS0 := keepP hS HK
        obtain ⟨r0, r1, r2, r3, r4, r5, r6, r7, r8, r9, r10, r11⟩ := hN.c12
        clear hN
        have hPa := fun (w2 : World) (h : SinceP w W w2) => (hPa w2 h.1.env).mono (R' := fun e w' => e = .returned (.bool P) ∧ SinceP w W w') (fun _ _ x => ⟨x.1, h.step x.2⟩)
        have hPb := fun (w2 : World) (h : SinceP w W w2) => (hPb w2).mono (R' := fun e w' => e = .returned (.bool P) ∧ SinceP w W w') (fun _ _ x => ⟨x.1, h.step x.2⟩)
        have hLa := fun (w2 : World) (h : SinceP w W w2) => (hLa w2 h.1.env).mono (R' := fun e w' => e = .returned (.bool L) ∧ SinceP w W w') (fun _ _ x => ⟨x.1, h.step x.2⟩)
        have hLb := fun (w2 : World) (h : SinceP w W w2) => (hLb w2).mono (R' := fun e w' => e = .returned (.bool L) ∧ SinceP w W w') (fun _ _ x => ⟨x.1, h.step x.2⟩)
        have hTa := fun (w2 : World) (h : SinceP w W w2) => (hTa w2 h.1.env).mono (R' := fun e w' => e = .returned (.int .i64 T) ∧ SinceP w W w') (fun _ _ x => ⟨x.1, h.step x.2⟩)
        have hTb := fun (w2 : World) (h : SinceP w W w2) => (hTb w2 h.1.env).mono (R' := fun e w' => e = .returned (.int .i64 T) ∧ SinceP w W w') (fun _ _ x => ⟨x.1, h.step x.2⟩)
        have hSa := fun (w2 : World) (h : SinceP w W w2) => (hSa w2 h.1.env (fun _ => HTZ.out.below h.1.below)).mono (R' := fun e w' => e = .returned (.string ⟨o.toArray⟩) ∧ SinceP w W w') (fun _ _ x => ⟨x.1, h.step x.2⟩)
        have hSb := fun (w2 : World) (h : SinceP w W w2) => (hSb w2 h.1.env).mono (R' := fun e w' => e = .returned (.string ⟨o.toArray⟩) ∧ SinceP w W w') (fun _ _ x => ⟨x.1, h.step x.2⟩)
        go_cut [74] from 37 to 74 (fun s wx => s = .bool false ∧ SinceP w W wx)
        case first =>
          go_region_held3 (fun w2 => SinceP w W w2 ∧ w2.cell? ⟨g, 0, none⟩ = some (.int .i64 1) ∧ w2.cell? ⟨g, 1, none⟩ = some (.int .i64 st) ∧ w2.cell? ⟨g, 2, none⟩ = some (.int .i64 (-1)) ∧ w2.cell? ⟨g, 3, none⟩ = some (.int .i64 0) ∧ w2.cell? ⟨g, 4, none⟩ = some (.string ⟨#[]⟩) ∧ w2.cell? ⟨g, 5, none⟩ = some (.string ⟨#[]⟩) ∧ w2.cell? ⟨g, 6, none⟩ = some (.string ⟨t.toArray⟩) ∧ w2.cell? ⟨g, 7, none⟩ = some (.slice none 0 0) ∧ w2.cell? ⟨g, 8, none⟩ = some (.slice none 0 0) ∧ w2.cell? ⟨g, 9, none⟩ = some (.slice none 0 0) ∧ w2.cell? ⟨g, 10, none⟩ = some (.bool false) ∧ w2.cell? ⟨g, 11, none⟩ = some (.string ⟨#[]⟩) ∧ w2.cell? ⟨gc, 0, none⟩ = some (.int .i64 80) ∧ w2.cell? ⟨gc, 1, none⟩ = some (.int .i64 2) ∧ w2.cell? ⟨gc, 2, none⟩ = some (.int .i64 0) ∧ w2.cell? ⟨gc, 3, none⟩ = some (.bool single) ∧ w2.cell? ⟨gc, 4, none⟩ = some (.bool false) ∧ w2.cell? ⟨gc, 5, none⟩ = some (.bool false) ∧ w2.cell? ⟨gc, 6, none⟩ = some (.bool false) ∧ w2.cell? ⟨gc, 7, none⟩ = some (.bool bare)) (first | exact keepP (by first | assumption | exact And.left (by assumption)) HK | exact keepP (SinceP.drew (by first | assumption | exact And.left (by assumption))) HK) (first | (go_at_call 14; (with_reducible refine (hPa _ (by first | assumption | exact And.left (by assumption))).mono ?_); rintro e w5 ⟨rfl, hS5⟩) | (go_at_call 15; (with_reducible refine (hPb _ (by first | assumption | exact And.left (by assumption))).mono ?_); rintro e w5 ⟨rfl, hS5⟩) | (go_at_call 16; (with_reducible refine (hLa _ (by first | assumption | exact And.left (by assumption))).mono ?_); rintro e w5 ⟨rfl, hS5⟩) | (go_at_call 17; (with_reducible refine (hLb _ (by first | assumption | exact And.left (by assumption))).mono ?_); rintro e w5 ⟨rfl, hS5⟩) | (go_at_call 18; (with_reducible refine (hTa _ (by first | assumption | exact And.left (by assumption))).mono ?_); rintro e w5 ⟨rfl, hS5⟩) | (go_at_call 19; (with_reducible refine (hTb _ (by first | assumption | exact And.left (by assumption))).mono ?_); rintro e w5 ⟨rfl, hS5⟩) | (go_at_call 20; (with_reducible refine (hSa _ (by first | assumption | exact And.left (by assumption))).mono ?_); rintro e w5 ⟨rfl, hS5⟩) | (go_at_call 21; (with_reducible refine (hSb _ (by first | assumption | exact And.left (by assumption))).mono ?_); rintro e w5 ⟨rfl, hS5⟩))
          all_goals
            go_wp2_with fail
            go_meet
            exact ⟨by simp, by first | assumption | exact And.left (by assumption)⟩
        case rest =>
          obtain ⟨rfl, hS2⟩ := hcut
          have hA := hS2.1
          have hC := HK.out.2.below hS2.2 HK.out.2.lt
          clear hS hS2 hPa hPb hLa hLb hTa hTb hSa hSb HK r0 r1 r2 r3 r4 r5 r6 r7 r8 r9 r10 r11
          go_wp2_with fail
          refine (hWd _).mono ?_
          rintro e w3 ⟨rfl, hb3⟩
          have hA := hA.step hb3
          have hC := hC.below hb3 hC.lt
          go_wp2_with fail
          go_roundg (2 - (i + 1))
          case measure => omega
          case rel => exact ⟨i + 1, wd, by omega, rfl, rfl, by go_num, by omega, hA, hC⟩
      · obtain rfl : i = 2 := by omega
        go_wp2_with fail
        refine (awake23_c _ hA.env).mono ?_
        rintro e w1 ⟨rfl, hb⟩
        go_wp2_with fail
        go_ret
        exact ⟨rfl, (hA.step hb).below⟩
  case true =>
    go_enter Tryz.func3, Tryz.ntmps3
    go_wp2_with fail
    have hA := hA.alloc (.cells #[.int .i64 80, .int .i64 2, .int .i64 0, .bool single, .bool false, .bool false, .bool false, .bool bare] 24)
    have hC : Full (w.alloc (.cells #[.int .i64 80, .int .i64 2, .int .i64 0, .bool single, .bool false, .bool false, .bool false, .bool bare] 24)) w.heap.size 24 [.int .i64 80, .int .i64 2, .int .i64 0, .bool single, .bool false, .bool false, .bool false, .bool bare] := Full.new w _ _
    generalize w.alloc (.cells #[.int .i64 80, .int .i64 2, .int .i64 0, .bool single, .bool false, .bool false, .bool false, .bool bare] 24) = W0 at *
    obtain ⟨gc, hgc⟩ : ∃ gc, gc = w.heap.size := ⟨_, rfl⟩
    rw [← hgc] at hC
    rw [← hgc]
    clear hgc
    go_loopg [0, 19] 2 (fun gk s0 s19 wr => ∃ (i : Nat) (t : List UInt8), i ≤ 2 ∧ gk = 2 - i ∧ s0 = .string ⟨t.toArray⟩ ∧ s19 = .int .i64 i ∧ t.length ≤ 100 ∧ At w wr ∧ Full wr gc 24 [.int .i64 80, .int .i64 2, .int .i64 0, .bool single, .bool false, .bool false, .bool false, .bool bare])
    case atStart => exact ⟨0, l, Nat.zero_le _, rfl, rfl, rfl, hl80, hA, hC⟩
    case round =>
      clear hA hC
      obtain ⟨i, t, hi, hgk, rfl, rfl, htl, hA, hC⟩ := hrel
      by_cases hlt : i < 2
      · have hWd := fun w => pword_c n w
        have hwl := pword_len n
        generalize pword n = wd at *
        have hSc := fun w => hSc t [33, 116] w
        have hPa := fun w hE => pplain_c t flow w hE (by omega)
        have hPb := fun w => rplain22_c t flow w (by omega)
        have hLa := fun w hE => literal_c t w hE (by omega)
        have hLb := fun w => rliteral22_c t w (by omega)
        have hTa := fun w hE => style_c 1 (-1) 0 80 2 0 st [33, 116] t single false false false bare flow row w hE (by omega) (by omega)
        have hTb := fun w hE => rstyle22_c 1 (-1) 0 80 2 0 st [33, 116] t single false false false bare flow row w hE (by omega) (by omega)
        have hSa := fun w hE hT => pshow_c 1 (-1) 0 80 2 0 st [33, 116] t single false false false bare flow w hE (by omega) (by omega) hT
        have hSb := fun w hE => rscalar22_c 1 (-1) 0 80 2 0 st [33, 116] t single false false false bare flow w hE (by omega) (by omega)
        generalize showP t st (!([33, 116] : List UInt8).isEmpty) single bare flow = o at *
        generalize styleM t st (!([33, 116] : List UInt8).isEmpty) single bare flow true = T1 at *
        generalize styleM t st (!([33, 116] : List UInt8).isEmpty) single bare flow row = T at *
        generalize plainM t flow = P at *
        generalize literalM t = L at *
        unfold scCells at hSc hTa hTb hSa hSb
        unfold cfCells at hTa hTb hSa hSb
        go_upto_region 11 with fail
        refine (hSc _).mono ?_
        rintro e w1 ⟨rfl, hb1⟩
        go_upto_region 11 with fail
        have hA := hA.step hb1
        have hC := hC.below hb1 hC.lt
        have hA := hA.alloc (.cells #[.int .i64 1, .int .i64 st, .int .i64 (-1), .int .i64 0, .string ⟨#[]⟩, .string ⟨#[33, 116]⟩, .string ⟨t.toArray⟩, .slice none 0 0, .slice none 0 0, .slice none 0 0, .bool false, .string ⟨#[]⟩] 28)
        have hC : Full (w1.alloc (.cells #[.int .i64 1, .int .i64 st, .int .i64 (-1), .int .i64 0, .string ⟨#[]⟩, .string ⟨#[33, 116]⟩, .string ⟨t.toArray⟩, .slice none 0 0, .slice none 0 0, .slice none 0 0, .bool false, .string ⟨#[]⟩] 28)) gc 24 [.int .i64 80, .int .i64 2, .int .i64 0, .bool single, .bool false, .bool false, .bool false, .bool bare] := hC.alloc _
        have hN : Full (w1.alloc (.cells #[.int .i64 1, .int .i64 st, .int .i64 (-1), .int .i64 0, .string ⟨#[]⟩, .string ⟨#[33, 116]⟩, .string ⟨t.toArray⟩, .slice none 0 0, .slice none 0 0, .slice none 0 0, .bool false, .string ⟨#[]⟩] 28)) w1.heap.size 28 [.int .i64 1, .int .i64 st, .int .i64 (-1), .int .i64 0, .string ⟨#[]⟩, .string ⟨#[33, 116]⟩, .string ⟨t.toArray⟩, .slice none 0 0, .slice none 0 0, .slice none 0 0, .bool false, .string ⟨#[]⟩] := Full.new w1 _ _
        generalize w1.alloc (.cells #[.int .i64 1, .int .i64 st, .int .i64 (-1), .int .i64 0, .string ⟨#[]⟩, .string ⟨#[33, 116]⟩, .string ⟨t.toArray⟩, .slice none 0 0, .slice none 0 0, .slice none 0 0, .bool false, .string ⟨#[]⟩] 28) = W at *
        generalize w1.heap.size = g at *
        clear hb1 hSc
        have HK := Lib.hid (And.intro hN hC)
        have hS : SinceP w W W := ⟨hA, Below.refl _ _⟩
        have hS0 := keepP hS HK
        obtain ⟨r0, r1, r2, r3, r4, r5, r6, r7, r8, r9, r10, r11⟩ := hN.c12
        clear hN
        have hPa := fun (w2 : World) (h : SinceP w W w2) => (hPa w2 h.1.env).mono (R' := fun e w' => e = .returned (.bool P) ∧ SinceP w W w') (fun _ _ x => ⟨x.1, h.step x.2⟩)
        have hPb := fun (w2 : World) (h : SinceP w W w2) => (hPb w2).mono (R' := fun e w' => e = .returned (.bool P) ∧ SinceP w W w') (fun _ _ x => ⟨x.1, h.step x.2⟩)
        have hLa := fun (w2 : World) (h : SinceP w W w2) => (hLa w2 h.1.env).mono (R' := fun e w' => e = .returned (.bool L) ∧ SinceP w W w') (fun _ _ x => ⟨x.1, h.step x.2⟩)
        have hLb := fun (w2 : World) (h : SinceP w W w2) => (hLb w2).mono (R' := fun e w' => e = .returned (.bool L) ∧ SinceP w W w') (fun _ _ x => ⟨x.1, h.step x.2⟩)
        have hTa := fun (w2 : World) (h : SinceP w W w2) => (hTa w2 h.1.env).mono (R' := fun e w' => e = .returned (.int .i64 T) ∧ SinceP w W w') (fun _ _ x => ⟨x.1, h.step x.2⟩)
        have hTb := fun (w2 : World) (h : SinceP w W w2) => (hTb w2 h.1.env).mono (R' := fun e w' => e = .returned (.int .i64 T) ∧ SinceP w W w') (fun _ _ x => ⟨x.1, h.step x.2⟩)
        have hSa := fun (w2 : World) (h : SinceP w W w2) => (hSa w2 h.1.env (fun _ => HTZ.out.below h.1.below)).mono (R' := fun e w' => e = .returned (.string ⟨o.toArray⟩) ∧ SinceP w W w') (fun _ _ x => ⟨x.1, h.step x.2⟩)
        have hSb := fun (w2 : World) (h : SinceP w W w2) => (hSb w2 h.1.env).mono (R' := fun e w' => e = .returned (.string ⟨o.toArray⟩) ∧ SinceP w W w') (fun _ _ x => ⟨x.1, h.step x.2⟩)
        go_cut [74] from 37 to 74 (fun s wx => s = .bool false ∧ SinceP w W wx)
        case first =>
          go_region_held3 (fun w2 => SinceP w W w2 ∧ w2.cell? ⟨g, 0, none⟩ = some (.int .i64 1) ∧ w2.cell? ⟨g, 1, none⟩ = some (.int .i64 st) ∧ w2.cell? ⟨g, 2, none⟩ = some (.int .i64 (-1)) ∧ w2.cell? ⟨g, 3, none⟩ = some (.int .i64 0) ∧ w2.cell? ⟨g, 4, none⟩ = some (.string ⟨#[]⟩) ∧ w2.cell? ⟨g, 5, none⟩ = some (.string ⟨#[33, 116]⟩) ∧ w2.cell? ⟨g, 6, none⟩ = some (.string ⟨t.toArray⟩) ∧ w2.cell? ⟨g, 7, none⟩ = some (.slice none 0 0) ∧ w2.cell? ⟨g, 8, none⟩ = some (.slice none 0 0) ∧ w2.cell? ⟨g, 9, none⟩ = some (.slice none 0 0) ∧ w2.cell? ⟨g, 10, none⟩ = some (.bool false) ∧ w2.cell? ⟨g, 11, none⟩ = some (.string ⟨#[]⟩) ∧ w2.cell? ⟨gc, 0, none⟩ = some (.int .i64 80) ∧ w2.cell? ⟨gc, 1, none⟩ = some (.int .i64 2) ∧ w2.cell? ⟨gc, 2, none⟩ = some (.int .i64 0) ∧ w2.cell? ⟨gc, 3, none⟩ = some (.bool single) ∧ w2.cell? ⟨gc, 4, none⟩ = some (.bool false) ∧ w2.cell? ⟨gc, 5, none⟩ = some (.bool false) ∧ w2.cell? ⟨gc, 6, none⟩ = some (.bool false) ∧ w2.cell? ⟨gc, 7, none⟩ = some (.bool bare)) (first | exact keepP (by first | assumption | exact And.left (by assumption)) HK | exact keepP (SinceP.drew (by first | assumption | exact And.left (by assumption))) HK) (first | (go_at_call 14; (with_reducible refine (hPa _ (by first | assumption | exact And.left (by assumption))).mono ?_); rintro e w5 ⟨rfl, hS5⟩) | (go_at_call 15; (with_reducible refine (hPb _ (by first | assumption | exact And.left (by assumption))).mono ?_); rintro e w5 ⟨rfl, hS5⟩) | (go_at_call 16; (with_reducible refine (hLa _ (by first | assumption | exact And.left (by assumption))).mono ?_); rintro e w5 ⟨rfl, hS5⟩) | (go_at_call 17; (with_reducible refine (hLb _ (by first | assumption | exact And.left (by assumption))).mono ?_); rintro e w5 ⟨rfl, hS5⟩) | (go_at_call 18; (with_reducible refine (hTa _ (by first | assumption | exact And.left (by assumption))).mono ?_); rintro e w5 ⟨rfl, hS5⟩) | (go_at_call 19; (with_reducible refine (hTb _ (by first | assumption | exact And.left (by assumption))).mono ?_); rintro e w5 ⟨rfl, hS5⟩) | (go_at_call 20; (with_reducible refine (hSa _ (by first | assumption | exact And.left (by assumption))).mono ?_); rintro e w5 ⟨rfl, hS5⟩) | (go_at_call 21; (with_reducible refine (hSb _ (by first | assumption | exact And.left (by assumption))).mono ?_); rintro e w5 ⟨rfl, hS5⟩))
          all_goals
            go_wp2_with fail
            go_meet
            exact ⟨by simp, by first | assumption | exact And.left (by assumption)⟩
        case rest =>
          obtain ⟨rfl, hS2⟩ := hcut
          have hA := hS2.1
          have hC := HK.out.2.below hS2.2 HK.out.2.lt
          clear hS hS2 hPa hPb hLa hLb hTa hTb hSa hSb HK r0 r1 r2 r3 r4 r5 r6 r7 r8 r9 r10 r11
          go_wp2_with fail
          refine (hWd _).mono ?_
          rintro e w3 ⟨rfl, hb3⟩
          have hA := hA.step hb3
          have hC := hC.below hb3 hC.lt
          go_wp2_with fail
          go_roundg (2 - (i + 1))
          case measure => omega
          case rel => exact ⟨i + 1, wd, by omega, rfl, rfl, by go_num, by omega, hA, hC⟩
      · obtain rfl : i = 2 := by omega
        go_wp2_with fail
        refine (awake23_c _ hA.env).mono ?_
        rintro e w1 ⟨rfl, hb⟩
        go_wp2_with fail
        go_ret
        exact ⟨rfl, (hA.step hb).below⟩
end Go.Proofs.YtjfgcbikdibjeaaGreatDoor
