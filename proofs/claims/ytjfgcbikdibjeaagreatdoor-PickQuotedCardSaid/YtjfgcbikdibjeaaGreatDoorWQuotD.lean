/- The walks of package quot: up to the quote at the end. -/
import Derived.Test.YtjfgcbikdibjeaaGreatDoorWQuotC
namespace Go.Proofs.YtjfgcbikdibjeaaGreatDoor
open Go.RowKit U Go.Proofs

def posAt (w : World) (g : Nat) : Nat := match w.cell? ⟨g, 1, none⟩ with | some (.int _ x) => x.toNat | _ => 0
section
variable {W0 w : World} {g : Nat} {l : List UInt8} {p : Nat} {n : Int} {q : Nat} {es : List (QR × Value)} {c : QR} {v : Value} {B rb cap : Nat}
theorem QS.pos (h : QS W0 w g l p n q es c v B rb cap) : posAt w g = p := by
  unfold posAt
  rw [h.st.cells.2.1]
  rfl
/-- Behind an append of a byte to the row's text, ahead of the store. -/
theorem QS.pushed {tx : List UInt8} {fx : Nat} {td : Bool} (h : QS W0 w g l p n q es (tx, fx, td) v B rb cap) {x : Nat} (hx : x < 256) {w5 : World} {tb tc : Nat} (hown : w5.ownsRow B 5 1 (.slice (some ⟨tb, 0, none⟩) (tx.length + 1) tc) (tx.length + 1) (Lib.byteCells tx ++ #[.int .u8 (x : Int)].toList))
    (hg : (w.alloc (.cells #[.int .u8 (x : Int)] 5)).grownBy w5 v.ownBlock) :
    w5.cell? ⟨rb, es.length * 3, none⟩ = some v ∧ w5.frozen? ⟨rb, es.length * 3, none⟩ = false ∧
    (w5.setCell ⟨rb, es.length * 3, none⟩ (.slice (some ⟨tb, 0, none⟩) (tx.length + 1) tc)).cell? ⟨g, 1, none⟩ = some (.int .i64 p) ∧
    (w5.setCell ⟨rb, es.length * 3, none⟩ (.slice (some ⟨tb, 0, none⟩) (tx.length + 1) tc)).frozen? ⟨g, 1, none⟩ = false ∧
    ∀ k, 1 ≤ k → QS W0 ((w5.setCell ⟨rb, es.length * 3, none⟩ (.slice (some ⟨tb, 0, none⟩) (tx.length + 1) tc)).setCell ⟨g, 1, none⟩ (.int .i64 ((p + k : Nat) : Int))) g l (p + k) n q es (tx ++ [x.toUInt8], fx, td) (.slice (some ⟨tb, 0, none⟩) (tx.length + 1) tc) B rb cap := by
  have h5 := (h.st.alloc (.cells #[.int .u8 (x : Int)] 5)).grown (h.text.alloc _) hg
  have h6 : QS0 W0 (w5.setCell ⟨rb, es.length * 3, none⟩ (.slice (some ⟨tb, 0, none⟩) (tx.length + 1) tc)) g l p n q es (rowCells (tx ++ [x.toUInt8], fx, td) (.slice (some ⟨tb, 0, none⟩) (tx.length + 1) tc)) B rb cap := h5.putRow 0 _
  refine ⟨h5.rcell 0 (by omega), h5.rfree _, h6.cells.2.1, h6.full.free 1, fun k hk => ⟨h6.putAt _, ?_, ?_, ?_, ?_⟩⟩
  · have e : Lib.byteCells (tx ++ [x.toUInt8]) = Lib.byteCells tx ++ #[.int .u8 (x : Int)].toList := by
      rw [byteCells_append]
      congr 1
      simp [Lib.byteCells]
      omega
    have hl : (tx ++ [x.toUInt8]).length = tx.length + 1 := by simp
    have ht := own_far_put h6 (own_row_put h5 hown _ _) 1 (.int .i64 ((p + k : Nat) : Int))
    rw [← e] at ht
    show World.ownsRow _ _ _ _ _ (tx ++ [x.toUInt8]).length (Lib.byteCells (tx ++ [x.toUInt8]))
    rw [hl]
    exact ht
  · have := h.fix
    show fx ≤ (tx ++ [x.toUInt8]).length
    rw [List.length_append]
    exact Nat.le_trans this (Nat.le_add_right _ _)
  · have := h.size
    show totQ es + (tx ++ [x.toUInt8]).length ≤ _
    rw [List.length_append]
    simp only [List.length_singleton]
    dsimp only at this
    omega
  · have := h.count
    omega
end
/-- What a reader comes to. -/
def ScRet (W0 : World) (g : Nat) (l : List UInt8) (n : Int) (q : Nat) (R : QRes) (e : Ending) (w' : World) : Prop :=
  e = .returned (.int .i64 R.1) ∧ ∃ es c v B rb cap, QS W0 w' g l R.2.1 n q es c v B rb cap ∧ (R.1 = 0 → es.map Prod.fst ++ [c] = R.2.2)
set_option maxRecDepth 100000 in
set_option maxHeartbeats 16000000 in
theorem qscalar_c {W0 w : World} {g : Nat} {l : List UInt8} {p0 : Nat} {n : Int} {q : Nat} {es0 : List (QR × Value)} {cc0 : QR} {v0 : Value} {B0 rb0 cap0 : Nat} (h : QS W0 w g l p0 n q es0 cc0 v0 B0 rb0 cap0) (hs : l.length ≤ 1000000) (hp0 : p0 ≤ l.length) (hq : q = 39 ∨ q = 34)
    (hn0 : -9223372036854775808 ≤ n) (hn1 : n ≤ 9223372036854775807) (f0 : Nat) (hf0 : l.length < f0 + p0) (R : QRes) (hR : scF l n q f0 p0 (es0.map Prod.fst) cc0 = R) :
    Calls Tryz.prog 76 #[.pointer (some ⟨g, 0, none⟩)] w (ScRet W0 g l n q R) := by
  have H := Lib.hid h
  have HR0 := Lib.hid hR
  have HQ := Lib.hid hq
  obtain ⟨i0, hi, hz0, hz1, hz2⟩ := info_parts Tryz.infoByte
  clear h hR hq
  go_enter Tryz.func76, Tryz.ntmps76
  go_wp2_with fail
  go_loopw [] (fun wr => ∃ (f p : Nat) (es : List (QR × Value)) (c : QR) (v : Value) (B rb cap : Nat), p ≤ l.length ∧ l.length < f + p ∧ QS W0 wr g l p n q es c v B rb cap ∧ Hid (scF l n q f p (es.map Prod.fst) c = R)) (fun wr => l.length - posAt wr g)
  case atStart => exact ⟨f0, p0, es0, cc0, v0, B0, rb0, cap0, hp0, hf0, H.out, HR0⟩
  case round =>
    obtain ⟨f, p, es, c, v, B, rb, cap, hp, hf, h1, HR⟩ := hrel
    have H1 := Lib.hid h1
    clear h1 H HR0
    obtain ⟨k, rfl⟩ : ∃ k, f = k + 1 := ⟨f - 1, by omega⟩
    have hR1 := HR.out
    rw [scF] at hR1
    obtain ⟨c0, c1, c2, c3, c4⟩ := H1.out.st.cells
    have hct := H1.out.count
    have HP := Lib.hid H1.out.pos
    by_cases hlt : p < l.length
    · rw [if_neg (by omega)] at hR1
      have hbl := byt_lt l p
      by_cases h10 : byt l p = 10
      · have g10 : ((byt l p : Int) == 10) = true := by rw [h10]; rfl
        rw [if_pos h10] at hR1
        have hF := fun w h => feed_c (W0 := W0) (w := w) (g := g) (l := l) (p := p) (n := n) (q := q) (es := es) (c := c) (v := v) (B := B) (rb := rb) (cap := cap) h hs hlt hn0 hn1
        have hal := after_le hlt
        have hag := after_gt l p
        cases hok : okFeed l n p with
        | true =>
          rw [hok] at hF
          have hat : atFeed l p = afterQ l p := by
            unfold okFeed at hok
            unfold atFeed
            rw [if_neg (by
              intro h
              rw [decide_eq_true h] at hok
              cases hok)]
          rw [hat] at hF
          have HR2 : Hid (scF l n q k (afterQ l p) (es.map Prod.fst ++ [trimQ c]) newQ = R) := Lib.hid (by
            unfold okFeed at hok
            by_cases h3 : kindM l (p + 1) = 3 ∨ kindM l (p + 1) = 4
            · rw [decide_eq_true h3] at hok; cases hok
            · rw [if_neg h3, if_pos (by
                rw [decide_eq_false h3] at hok
                simp at hok
                exact hok)] at hR1
              exact hR1)
          clear hR1 HR hok hat h10
          generalize afterQ l p = ap at *
          generalize atFeed l p = af at *
          go_wp2_with fail
          go_quiet (fail)
          go_wp2_with fail
          go_quiet (fail)
          go_wp2_with fail
          refine (hF _ (H1.out.drewN _)).mono ?_
          rintro e w1 ⟨rfl, v', v2, B', rb', cap', h2⟩
          have hpos2 := Lib.hid h2.pos
          go_wp2_with fail
          refine ⟨⟨k, ap, _, _, _, _, _, _, hal, by omega, h2, Lib.hid (by rw [List.map_append]; exact HR2.out)⟩, ?_⟩
          rw [HP.out, hpos2.out]
          omega
        | false =>
          rw [hok] at hF
          have HR2 : Hid (R = (5, atFeed l p, [])) := Lib.hid (by
            unfold okFeed at hok
            unfold atFeed
            by_cases h3 : kindM l (p + 1) = 3 ∨ kindM l (p + 1) = 4
            · rw [if_pos h3] at hR1 ⊢; exact hR1.symm
            · rw [if_neg h3, if_neg (by
                rw [decide_eq_false h3] at hok
                simp at hok
                exact fun h => h.elim (fun h => hok.1 h) (fun h => absurd h (by omega)))] at hR1
              rw [if_neg h3]
              exact hR1.symm)
          clear hR1 HR hok h10
          generalize afterQ l p = ap at *
          generalize atFeed l p = af at *
          go_wp2_with fail
          go_quiet (fail)
          go_wp2_with fail
          go_quiet (fail)
          go_wp2_with fail
          refine (hF _ (H1.out.drewN _)).mono ?_
          rintro e w1 ⟨rfl, v', v2, B', rb', cap', h2⟩
          go_wp2_with fail
          go_ret
          rw [HR2.out]
          exact ⟨rfl, _, _, _, _, _, _, h2, fun h => by cases h⟩
      have g10 : ((byt l p : Int) == 10) = false := by rw [beq_eq_false_iff_ne]; omega
      rw [if_neg h10] at hR1
      by_cases h92 : byt l p = 92 ∧ q = 34
      · rw [if_pos h92] at hR1
        obtain ⟨h92, rfl⟩ := h92
        have g92 : ((byt l p : Int) == 92) = true := by rw [h92]; rfl
        by_cases hn10 : byt l (p + 1) = 10
        · rw [if_pos hn10] at hR1
          have hlp : p + 1 < l.length := by
            rcases Nat.lt_or_ge (p + 1) l.length with h2 | h2
            · exact h2
            · rw [byt_ge l _ h2] at hn10; cases hn10
          have hF := fun w h => escape_tie (W0 := W0) (w := w) (g := g) (l := l) (p := p) (n := n) (q := 34) (es := es) (c := c) (v := v) (B := B) (rb := rb) (cap := cap) h hs hlt h92 hn10
          have HR2 := Lib.hid hR1
          clear hR1 HR h10 h92 hn10
          go_wp2_with fail
          go_quiet (fail)
          go_wp2_with fail
          go_quiet (fail)
          go_wp2_with fail
          refine (hF _ (H1.out.drewN _)).mono ?_
          rintro e w1 ⟨rfl, h2⟩
          have hpos2 := Lib.hid h2.pos
          go_wp2_with fail
          refine ⟨⟨k, p + 1, _, _, _, _, _, _, by omega, by omega, h2, HR2⟩, ?_⟩
          rw [HP.out, hpos2.out]
          omega
        · rw [if_neg hn10] at hR1
          by_cases he : (escM l p).2.2 = 0
          · rw [if_pos he] at hR1
            obtain ⟨t, ht, ht1, ht2, _⟩ := esc_to he
            obtain ⟨r, hr⟩ : ∃ r, (escM l p).1 = r := ⟨_, rfl⟩
            have het : escM l p = (r, (t : Int), 0) := Prod.ext hr (Prod.ext ht he)
            rw [hr, ht] at hR1
            have hF := fun w h => escape_esc (W0 := W0) (w := w) (g := g) (l := l) (p := p) (n := n) (q := 34) (es := es) (c := c) (v := v) (B := B) (rb := rb) (cap := cap) h hs hlt h92 hn10 het ht1 ht2
            have HR2 := Lib.hid hR1
            clear hR1 HR h10 h92 hn10 he ht hr het
            go_wp2_with fail
            go_quiet (fail)
            go_wp2_with fail
            go_quiet (fail)
            go_wp2_with fail
            refine (hF _ (H1.out.drewN _)).mono ?_
            rintro e w1 ⟨rfl, v', h2⟩
            have hpos2 := Lib.hid h2.pos
            go_wp2_with fail
            refine ⟨⟨k, t, _, _, _, _, _, _, by omega, by omega, h2, HR2⟩, ?_⟩
            rw [HP.out, hpos2.out]
            omega
          · rw [if_neg he] at hR1
            have he5 : (escM l p).2.2 = 5 := (esc_err l p).resolve_left he
            rw [he5] at hR1
            have hF := fun w h => escape_bad (W0 := W0) (w := w) (g := g) (l := l) (p := p) (n := n) (q := 34) (es := es) (c := c) (v := v) (B := B) (rb := rb) (cap := cap) h hs hlt h92 hn10 he5
            have HR2 := Lib.hid hR1.symm
            clear hR1 HR h10 h92 hn10 he he5
            go_wp2_with fail
            go_quiet (fail)
            go_wp2_with fail
            go_quiet (fail)
            go_wp2_with fail
            refine (hF _ (H1.out.drewN _)).mono ?_
            rintro e w1 ⟨rfl, h2⟩
            go_wp2_with fail
            go_ret
            rw [HR2.out]
            exact ⟨rfl, _, _, _, _, _, _, h2, fun h => by cases h⟩
      rw [if_neg h92] at hR1
      by_cases hbq : byt l p ≠ q
      · rw [if_pos hbq] at hR1
        have gq : ((byt l p : Int) != (q : Int)) = true := by simp; omega
        have hsz := H1.out.size
        obtain ⟨tx, fx, td⟩ := c
        dsimp only at hsz
        have hn5 : tx.length + 1 ≤ maxLen := by unfold maxLen; omega
        have hn6 : (tx.length + 1) * 1 ≤ 140737488355328 := by omega
        have gw : IntKind.i64.wrap ((p : Int) + 1) = (p : Int) + 1 := IntWalk.i64_in _ (by omega)
        have HR2 : Hid (scF l n q k (p + 1) (es.map Prod.fst) (tx ++ [(byt l p).toUInt8], fx, td) = R) := Lib.hid hR1
        by_cases h9 : byt l p = 92
        · have g92 : ((byt l p : Int) == 92) = true := by rw [h9]; rfl
          have gq3 : ((q : Int) == 34) = false := by rw [beq_eq_false_iff_ne]; omega
          clear hR1 HR h10 h92 h9 hbq hsz
          go_wp2_with fail
          go_quiet (fail)
          go_wp2_with fail
          go_quiet (fail)
          go_wp2_with fail
          refine (last_c (H1.out.drewN _).st (by omega)).mono ?_
          rintro e w1 ⟨rfl, m1, hw1⟩
          have Ha : Hid (QS W0 w1 g l p n q es (tx, fx, td) v B rb cap) := Lib.hid (by rw [hw1]; exact (H1.out.drewN _).drewN m1)
          clear hw1
          go_wp2_with fail
          refine (last_c Ha.out.st (by omega)).mono ?_
          rintro e w2 ⟨rfl, m2, hw2⟩
          have H2 : Hid (QS W0 w2 g l p n q es (tx, fx, td) v B rb cap) := Lib.hid (by rw [hw2]; exact Ha.out.drewN m2)
          clear hw2 Ha
          obtain ⟨r0, r1, r2⟩ := H2.out.rcells
          have ht := H2.out.text
          dsimp only at ht
          go_wp2_with (at_builtin; go_loud (refine wpList_pushRow rfl _ _ 76 rfl B 5 i0 (.int .u8 0) 1 1 Tryz.underlying76 hi hz0 hz1 hz2 rfl (by omega) v tx.length (Lib.byteCells tx) #[.int .u8 (byt l p : Int)] rfl ht rfl rfl (by simp [Value.oneCell']) hn5 hn6 H2.out.st.b1 ?_); intro tb tc w5 hown5 hgrow5; obtain ⟨r50, f50, c15, f15, hQ5⟩ := H2.out.pushed (x := byt l p) (byt_lt l p) hown5 hgrow5)
          have h2 := hQ5 1 (by omega)
          have hpos2 := Lib.hid h2.pos
          rw [show ((p + 1 : Nat) : Int) = (p : Int) + 1 by omega] at h2 hpos2
          refine ⟨⟨k, p + 1, _, _, _, _, _, _, by omega, by omega, h2, HR2⟩, ?_⟩
          rw [HP.out, hpos2.out]
          omega
        · have g92 : ((byt l p : Int) == 92) = false := by rw [beq_eq_false_iff_ne]; omega
          clear hR1 HR h10 h92 h9 hbq hsz
          go_wp2_with fail
          go_quiet (fail)
          go_wp2_with fail
          go_quiet (fail)
          go_wp2_with fail
          refine (last_c (H1.out.drewN _).st (by omega)).mono ?_
          rintro e w1 ⟨rfl, m1, hw1⟩
          have Ha : Hid (QS W0 w1 g l p n q es (tx, fx, td) v B rb cap) := Lib.hid (by rw [hw1]; exact (H1.out.drewN _).drewN m1)
          clear hw1
          go_wp2_with fail
          refine (last_c Ha.out.st (by omega)).mono ?_
          rintro e w2 ⟨rfl, m2, hw2⟩
          have H2 : Hid (QS W0 w2 g l p n q es (tx, fx, td) v B rb cap) := Lib.hid (by rw [hw2]; exact Ha.out.drewN m2)
          clear hw2 Ha
          obtain ⟨r0, r1, r2⟩ := H2.out.rcells
          have ht := H2.out.text
          dsimp only at ht
          go_wp2_with (at_builtin; go_loud (refine wpList_pushRow rfl _ _ 76 rfl B 5 i0 (.int .u8 0) 1 1 Tryz.underlying76 hi hz0 hz1 hz2 rfl (by omega) v tx.length (Lib.byteCells tx) #[.int .u8 (byt l p : Int)] rfl ht rfl rfl (by simp [Value.oneCell']) hn5 hn6 H2.out.st.b1 ?_); intro tb tc w5 hown5 hgrow5; obtain ⟨r50, f50, c15, f15, hQ5⟩ := H2.out.pushed (x := byt l p) (byt_lt l p) hown5 hgrow5)
          have h2 := hQ5 1 (by omega)
          have hpos2 := Lib.hid h2.pos
          rw [show ((p + 1 : Nat) : Int) = (p : Int) + 1 by omega] at h2 hpos2
          refine ⟨⟨k, p + 1, _, _, _, _, _, _, by omega, by omega, h2, HR2⟩, ?_⟩
          rw [HP.out, hpos2.out]
          omega
      have hbq := Classical.not_not.1 hbq
      rw [if_neg (fun h => h hbq)] at hR1
      have h9 : byt l p ≠ 92 := by have := HQ.out; omega
      have g92 : ((byt l p : Int) == 92) = false := by rw [beq_eq_false_iff_ne]; omega
      have gq : ((byt l p : Int) != (q : Int)) = false := by rw [hbq]; simp
      by_cases htw : q = 39 ∧ byt l (p + 1) = 39
      · rw [if_pos htw] at hR1
        obtain ⟨rfl, h39⟩ := htw
        have hlp : p + 1 < l.length := by
          rcases Nat.lt_or_ge (p + 1) l.length with h2 | h2
          · exact h2
          · rw [byt_ge l _ h2] at h39; cases h39
        have g39 : ((byt l p : Int) == 39) = true := by rw [hbq]; rfl
        have hP := fun w => Tryz.strings_HasPrefix ⟨(l.drop p).toArray⟩ ⟨#[39, 39]⟩ w
        have hP : ∀ w, Calls Tryz.prog 43 #[.string ⟨(l.drop p).toArray⟩, .string ⟨#[39, 39]⟩] w fun e w' => e = .returned (.bool true) ∧ w = w' := fun w => (hP w).mono (by
          rintro e w' ⟨rfl, rfl⟩
          refine ⟨ret_bool ?_, rfl⟩
          show Lib.hasPrefix (l.drop p) [39, 39] = true
          rw [qpre2_at l p 39 39 (by decide) hbq]
          exact decide_eq_true h39)
        have hsz := H1.out.size
        obtain ⟨tx, fx, td⟩ := c
        dsimp only at hsz
        have hn5 : tx.length + 1 ≤ maxLen := by unfold maxLen; omega
        have hn6 : (tx.length + 1) * 1 ≤ 140737488355328 := by omega
        have gw : IntKind.i64.wrap ((p : Int) + 2) = (p : Int) + 2 := IntWalk.i64_in _ (by omega)
        have HR2 : Hid (scF l n 39 k (p + 2) (es.map Prod.fst) (tx ++ [(byt l p).toUInt8], fx, td) = R) := Lib.hid (by rw [hbq]; exact hR1)
        clear hR1 HR h10 h92 h9 hbq hsz h39
        go_wp2_with fail
        go_quiet (fail)
        go_wp2_with fail
        go_quiet (fail)
        go_wp2_with fail
        go_quiet ((go_at_call 43; exact qs2 (hP _)))
        go_wp2_with fail
        refine (last_c (H1.out.drewN _).st (by omega)).mono ?_
        rintro e w1 ⟨rfl, m1, hw1⟩
        have Ha : Hid (QS W0 w1 g l p n 39 es (tx, fx, td) v B rb cap) := Lib.hid (by rw [hw1]; exact (H1.out.drewN _).drewN m1)
        clear hw1
        go_wp2_with fail
        refine (last_c Ha.out.st (by omega)).mono ?_
        rintro e w2 ⟨rfl, m2, hw2⟩
        have H2 : Hid (QS W0 w2 g l p n 39 es (tx, fx, td) v B rb cap) := Lib.hid (by rw [hw2]; exact Ha.out.drewN m2)
        clear hw2 Ha
        obtain ⟨r0, r1, r2⟩ := H2.out.rcells
        have ht := H2.out.text
        dsimp only at ht
        go_wp2_with (at_builtin; go_loud (refine wpList_pushRow rfl _ _ 76 rfl B 5 i0 (.int .u8 0) 1 1 Tryz.underlying76 hi hz0 hz1 hz2 rfl (by omega) v tx.length (Lib.byteCells tx) #[.int .u8 (byt l p : Int)] rfl ht rfl rfl (by simp [Value.oneCell']) hn5 hn6 H2.out.st.b1 ?_); intro tb tc w5 hown5 hgrow5; obtain ⟨r50, f50, c15, f15, hQ5⟩ := H2.out.pushed (x := byt l p) (byt_lt l p) hown5 hgrow5)
        have h2 := hQ5 2 (by omega)
        have hpos2 := Lib.hid h2.pos
        rw [show ((p + 2 : Nat) : Int) = (p : Int) + 2 by omega] at h2 hpos2
        refine ⟨⟨k, p + 2, _, _, _, _, _, _, by omega, by omega, h2, HR2⟩, ?_⟩
        rw [HP.out, hpos2.out]
        omega
      rw [if_neg htw] at hR1
      have gw : IntKind.i64.wrap ((p : Int) + 1) = (p : Int) + 1 := IntWalk.i64_in _ (by omega)
      have f1 := H1.out.st.full.free 1
      have HR2 := Lib.hid hR1.symm
      have HQ1 : Hid (∀ m, QS W0 ((wr.drewN m).setCell ⟨g, 1, none⟩ (.int .i64 ((p : Int) + 1))) g l (p + 1) n q es c v B rb cap) := Lib.hid (by
        intro m
        have := (H1.out.drewN m).putAt (p + 1) (by omega)
        rw [show ((p + 1 : Nat) : Int) = (p : Int) + 1 by omega] at this
        exact this)
      by_cases h39 : q = 39
      · obtain rfl := h39
        have g39 : ((byt l p : Int) == 39) = true := by rw [hbq]; rfl
        have hP := fun w => Tryz.strings_HasPrefix ⟨(l.drop p).toArray⟩ ⟨#[39, 39]⟩ w
        have hP : ∀ w, Calls Tryz.prog 43 #[.string ⟨(l.drop p).toArray⟩, .string ⟨#[39, 39]⟩] w fun e w' => e = .returned (.bool false) ∧ w = w' := fun w => (hP w).mono (by
          rintro e w' ⟨rfl, rfl⟩
          refine ⟨ret_bool ?_, rfl⟩
          show Lib.hasPrefix (l.drop p) [39, 39] = false
          rw [qpre2_at l p 39 39 (by decide) hbq]
          exact decide_eq_false (fun h => htw ⟨rfl, h⟩))
        clear hR1 HR h10 h92 h9 hbq htw
        go_wp2_with fail
        go_quiet (fail)
        go_wp2_with fail
        go_quiet (fail)
        go_wp2_with fail
        go_quiet ((go_at_call 43; exact qs2 (hP _)))
        go_wp2_with fail
        go_ret
        rw [HR2.out]
        exact ⟨rfl, es, c, v, B, rb, cap, HQ1.out _, fun _ => rfl⟩
      · have g39 : ((byt l p : Int) == 39) = false := by rw [beq_eq_false_iff_ne]; omega
        clear hR1 HR h10 h92 h9 hbq htw h39
        go_wp2_with fail
        go_quiet (fail)
        go_wp2_with fail
        go_quiet (fail)
        go_wp2_with fail
        go_quiet (fail)
        go_wp2_with fail
        go_ret
        rw [HR2.out]
        exact ⟨rfl, es, c, v, B, rb, cap, HQ1.out _, fun _ => rfl⟩
    · obtain rfl : p = l.length := by omega
      have HR2 : Hid (R = (5, l.length, [])) := Lib.hid (by rw [if_pos (Nat.le_refl _)] at hR1; exact hR1.symm)
      clear hR1 HR
      go_wp2_with fail
      go_quiet (fail)
      go_wp2_with fail
      go_ret
      rw [HR2.out]
      exact ⟨rfl, es, c, v, B, rb, cap, H1.out.drewN _, fun h => by cases h⟩
end Go.Proofs.YtjfgcbikdibjeaaGreatDoor
