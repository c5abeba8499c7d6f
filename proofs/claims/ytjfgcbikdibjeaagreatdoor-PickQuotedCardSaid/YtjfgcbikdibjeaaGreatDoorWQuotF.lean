/- The walk of package quot's Read. -/
import Derived.Test.YtjfgcbikdibjeaaGreatDoorWQuotD
import Derived.Test.YtjfgcbikdibjeaaGreatDoorWQuotE
namespace Go.Proofs.YtjfgcbikdibjeaaGreatDoor
open Go.RowKit U Go.Proofs

theorem QS.init (w : World) (l : List UInt8) (p : Nat) (n : Int) (q : Nat) :
    QS w ((w.alloc (.cells #[.slice none 0 0, .int .i64 0, .bool false] 98)).alloc (.cells #[.string ⟨l.toArray⟩, .int .i64 p, .int .i64 n, .int .u8 q, .slice (some ⟨w.heap.size, 0, none⟩) 1 1] 101)) (w.heap.size + 1) l p n q [] newQ (.slice none 0 0)
      (w.heap.size + 1 + 1) w.heap.size 1 := by
  have hb : Below w.heap.size w ((w.alloc (.cells #[.slice none 0 0, .int .i64 0, .bool false] 98)).alloc (.cells #[.string ⟨l.toArray⟩, .int .i64 p, .int .i64 n, .int .u8 q, .slice (some ⟨w.heap.size, 0, none⟩) 1 1] 101)) :=
    ((Below.refl _ _).alloc (Nat.le_refl _) _).alloc (by simp) _
  refine ⟨⟨⟨hb.os, hb.tape, hb.output, hb.size, fun k hk _ => hb.block k hk⟩, ?_, ?_, by omega, by simp, fun x hx => by cases hx⟩, own_nil _ _ _, Nat.le_refl _, Nat.zero_le _, Nat.zero_le _⟩
  · have := Full.new (w.alloc (.cells #[.slice none 0 0, .int .i64 0, .bool false] 98)) 101 [.string ⟨l.toArray⟩, .int .i64 p, .int .i64 n, .int .u8 q, .slice (some ⟨w.heap.size, 0, none⟩) 1 1]
    rw [show (w.alloc (.cells #[.slice none 0 0, .int .i64 0, .bool false] 98)).heap.size = w.heap.size + 1 by simp] at this
    exact this
  · exact (World.ownsRow_lit w #[.slice none 0 0, .int .i64 0, .bool false] 1 (Nat.le_refl _) (by unfold maxLen; omega) rfl).alloc _
theorem scF_le (l : List UInt8) (n : Int) (q : Nat) : ∀ (f p : Nat) (es : List QR) (c : QR), p ≤ l.length → (scF l n q f p es c).2.1 ≤ l.length := by
  intro f
  induction f with
  | zero => intro p es c hp; exact hp
  | succ f ih =>
    intro p es c hp
    rw [scF]
    by_cases h1 : l.length ≤ p
    · rw [if_pos h1]; exact hp
    rw [if_neg h1]
    have hal := after_le (l := l) (p := p) (by omega)
    by_cases h2 : byt l p = 10
    · rw [if_pos h2]
      split
      · show p + 1 ≤ _; omega
      · split
        · exact ih _ _ _ hal
        · exact hal
    rw [if_neg h2]
    by_cases h3 : byt l p = 92 ∧ q = 34
    · rw [if_pos h3]
      split
      · exact ih _ _ _ (by omega)
      · split
        · rename_i h
          obtain ⟨t, ht, _, ht2, _⟩ := esc_to h
          rw [ht]
          exact ih _ _ _ ht2
        · exact hp
    rw [if_neg h3]
    split
    · exact ih _ _ _ (by omega)
    · split
      · rename_i h
        refine ih _ _ _ ?_
        rcases Nat.lt_or_ge (p + 1) l.length with h4 | h4
        · omega
        · have := h.2
          rw [byt_ge l _ h4] at this
          cases this
      · show p + 1 ≤ _; omega
/-- What the reader's cells hold, whatever is laid behind. -/
def RSq (W w : World) : Prop := Below W.heap.size W w
theorem RSq.drew {W w : World} (h : RSq W w) : RSq W w.drew := below_drewN h 1
theorem keepQ {W0 W w : World} {g : Nat} {l : List UInt8} {p : Nat} {n : Int} {q : Nat} {es : List (QR × Value)} {c : QR} {v : Value} {B rb cap : Nat} (h : RSq W w) (HK : Hid (QS W0 W g l p n q es c v B rb cap)) :
    RSq W w ∧ w.cell? ⟨g, 1, none⟩ = some (.int .i64 p) ∧ w.cell? ⟨g, 4, none⟩ = some (.slice (some ⟨rb, 0, none⟩) (es.length + 1) cap) :=
  ⟨h, (HK.out.below h).st.cells.2.1, (HK.out.below h).st.cells.2.2.2.2⟩
set_option maxRecDepth 100000 in
set_option maxHeartbeats 8000000 in
theorem quotRead_c (l : List UInt8) (a n : Int) (w : World) (hs : l.length ≤ 1000000) (ha0 : -9223372036854775808 ≤ a) (ha1 : a ≤ 9223372036854775807) (hn0 : -9223372036854775808 ≤ n) (hn1 : n ≤ 9223372036854775807) :
    Calls Tryz.prog 38 #[.string ⟨l.toArray⟩, .int .i64 a, .int .i64 n] w fun e w' =>
      e = .returned (.tuple #[.string ⟨(quotM l a n).1.toArray⟩, .int .i64 (quotM l a n).2.1, .bool (quotM l a n).2.2.1, .int .i64 (quotM l a n).2.2.2]) ∧ Below w.heap.size w w' := by
  obtain ⟨R, hR⟩ : ∃ R, R = quotM l a n := ⟨_, rfl⟩
  rw [← hR]
  unfold quotM at hR
  by_cases h1 : a < 0
  · have HE : Hid (R = ([], a, false, 5)) := Lib.hid (by rw [hR, if_pos (.inl h1)])
    clear hR
    go_enter Tryz.func38, Tryz.ntmps38
    go_wp2_with fail
    exact bodyPost_ret (v := .tuple #[.string ⟨#[]⟩, .int .i64 a, .bool false, .int .i64 5]) (by simp [results, Tryz.results38, go_sem]) rfl ⟨by rw [HE.out], Below.refl _ _⟩
  by_cases h2 : (l.length : Int) ≤ a
  · have HE : Hid (R = ([], a, false, 5)) := Lib.hid (by rw [hR, if_pos (.inr (.inl h2))])
    clear hR
    go_enter Tryz.func38, Tryz.ntmps38
    go_wp2_with fail
    exact bodyPost_ret (v := .tuple #[.string ⟨#[]⟩, .int .i64 a, .bool false, .int .i64 5]) (by simp [results, Tryz.results38, go_sem]) rfl ⟨by rw [HE.out], Below.refl _ _⟩
  obtain ⟨p, rfl⟩ := Int.eq_ofNat_of_zero_le (show 0 ≤ a by omega)
  have hp : p < l.length := by omega
  rw [show ((p : Int)).toNat = p from rfl] at hR
  by_cases hq : byt l p = 39 ∨ byt l p = 34
  · rw [if_neg (by omega)] at hR
    have hI := QS.init w l (p + 1) n (byt l p)
    rw [show ((p + 1 : Nat) : Int) = (p : Int) + 1 by omega] at hI
    have hSc := fun w2 h => qscalar_c (W0 := w) (w := w2) (g := w.heap.size + 1) (l := l) (p0 := p + 1) (n := n) (q := byt l p) (es0 := []) (cc0 := newQ) (v0 := .slice none 0 0) (B0 := w.heap.size + 1 + 1) (rb0 := w.heap.size) (cap0 := 1) h hs (by omega) hq hn0 hn1 (l.length + 1 - (p + 1)) (by omega) (scM l n (byt l p) (p + 1)) rfl
    have hle := scF_le l n (byt l p) (l.length + 1 - (p + 1)) (p + 1) [] newQ (by omega)
    change (scM l n (byt l p) (p + 1)).2.1 ≤ _ at hle
    obtain ⟨⟨Re, Rp, Rr⟩, hsm⟩ : ∃ X, scM l n (byt l p) (p + 1) = X := ⟨_, rfl⟩
    rw [hsm] at hR hSc hle
    simp only at hR hle
    have HI := Lib.hid hI
    have HR := Lib.hid hR
    clear hR hsm hI h1 h2
    have hw1 : IntKind.i64.wrap ((p : Int) + 1) = (p : Int) + 1 := IntWalk.i64_in _ (by omega)
    have hb0 : Below w.heap.size w ((w.alloc (.cells #[.slice none 0 0, .int .i64 0, .bool false] 98)).alloc (.cells #[.string ⟨l.toArray⟩, .int .i64 ((p : Int) + 1), .int .i64 n, .int .u8 (byt l p), .slice (some ⟨w.heap.size, 0, none⟩) 1 1] 101)) :=
      ((Below.refl _ _).alloc (Nat.le_refl _) _).alloc (by simp) _
    have gq : (((byt l p : Int) != 39) = false) ∨ (((byt l p : Int) != 39) = true ∧ ((byt l p : Int) != 34) = false) := by
      rcases hq with h | h
      · left; rw [h]; rfl
      · right; rw [h]; exact ⟨rfl, rfl⟩
    clear hq
    have key : ∀ w1 : World, ScRet w (w.heap.size + 1) l n (byt l p) (Re, Rp, Rr) (.returned (.int .i64 Re)) w1 → Below w.heap.size w w1 := by
      rintro w1 ⟨_, es, c, v, B, rb, cap, h1, _⟩
      have h := h1.st.only
      exact ⟨h.os, h.tape, h.output, h.size, fun k hk => h.block k hk (fun e => by injection e with e; omega)⟩
    by_cases hRe : Re = 0
    · subst hRe
      have HR2 : Hid (R = (joinQ Rr, (Rp : Int), decide (Rr.length = 1), 0)) := Lib.hid (by rw [HR.out, if_pos rfl])
      clear HR
      rcases gq with g39 | ⟨g39, g34⟩
      all_goals
        go_enter Tryz.func38, Tryz.ntmps38
        go_wp2_with fail
        refine (hSc _ HI.out).mono ?_
        intro e w1 hret
        have hbl := key w1 (by obtain ⟨rfl, h⟩ := hret; exact ⟨rfl, h⟩)
        obtain ⟨rfl, es, c, v, B, rb, cap, h1, hok⟩ := hret
        have hok : es.map Prod.fst ++ [c] = Rr := hok rfl
        obtain ⟨c0, c1, c2, c3, c4⟩ := h1.st.cells
        have hct := h1.count
        have hsz := h1.size
        dsimp only at hct hsz
        have HK := Lib.hid h1
        have HOK := Lib.hid hok
        have HONE : Hid ((((es.length : Int) + 1) == 1) = decide (Rr.length = 1)) := Lib.hid (by
          have hl : Rr.length = es.length + 1 := by rw [← hok]; simp
          rw [hl, Bool.eq_iff_iff, beq_iff_eq, decide_eq_true_iff]
          omega)
        have hS : RSq w1 w1 := Below.refl _ _
        have hel : (es ++ [(c, v)]).length = es.length + 1 := by simp
        have hJ : ∀ w2, RSq w1 w2 → Calls Tryz.prog 77 #[.slice (some ⟨rb, 0, none⟩) (es.length + 1) cap] w2 fun e w' => e = .returned (.string ⟨(joinQ Rr).toArray⟩) ∧ RSq w1 w' := by
          intro w2 h2
          have hK2 := HK.out.below h2
          have := joined_c (w := w2) (B0 := w.heap.size) (rb := rb) (cap := cap) (rs := es ++ [(c, v)]) (by rw [hel, rowsCells_snoc]; exact hK2.st.own) (by
            intro x hx
            rcases List.mem_append.1 hx with hx | hx
            · exact Sl.own (hK2.st.old x hx).1
            · obtain rfl := List.mem_singleton.1 hx
              exact Sl.own hK2.text) (by rw [totQ_snoc, hel]; omega)
          rw [hel, List.map_append] at this
          refine this.mono ?_
          rintro e w' ⟨rfl, hb⟩
          refine ⟨?_, h2.trans (hb.mono h2.size)⟩
          rw [← HOK.out]
          rfl
        clear hok h1 hSc HI hsz
        go_wp2_with fail
        go_region_held3 (fun w2 => RSq w1 w2 ∧ w2.cell? ⟨w.heap.size + 1, 1, none⟩ = some (.int .i64 Rp) ∧ w2.cell? ⟨w.heap.size + 1, 4, none⟩ = some (.slice (some ⟨rb, 0, none⟩) (es.length + 1) cap)) (first | exact keepQ (by first | assumption | exact And.left (by assumption)) HK | exact keepQ (RSq.drew (by first | assumption | exact And.left (by assumption))) HK) ((go_at_call 77; (with_reducible refine (hJ _ (by first | assumption | exact And.left (by assumption))).mono ?_); rintro e w5 ⟨rfl, hS5⟩))
        go_wp2_with fail
        exact bodyPost_ret (v := .tuple #[.string ⟨(joinQ Rr).toArray⟩, .int .i64 Rp, .bool (((es.length : Int) + 1) == 1), .int .i64 0]) (by simp [results, Tryz.results38, go_sem]) rfl ⟨by rw [HR2.out, HONE.out], hbl.trans (hS5.mono hbl.size)⟩
    · have HR2 : Hid (R = ([], (Rp : Int), false, Re)) := Lib.hid (by rw [HR.out, if_neg hRe])
      have gRe : (Re != 0) = true := by simpa using hRe
      clear HR
      rcases gq with g39 | ⟨g39, g34⟩
      all_goals
        go_enter Tryz.func38, Tryz.ntmps38
        go_wp2_with fail
        refine (hSc _ HI.out).mono ?_
        intro e w1 hret
        have hbl := key w1 (by obtain ⟨rfl, h⟩ := hret; exact ⟨rfl, h⟩)
        obtain ⟨rfl, es, c, v, B, rb, cap, h1, _⟩ := hret
        obtain ⟨c0, c1, c2, c3, c4⟩ := h1.st.cells
        clear h1 hSc HI hRe
        go_wp2_with fail
        go_quiet (fail)
        go_wp2_with fail
        exact bodyPost_ret (v := .tuple #[.string ⟨#[]⟩, .int .i64 Rp, .bool false, .int .i64 Re]) (by simp [results, Tryz.results38, go_sem]) rfl ⟨by rw [HR2.out], below_drewN hbl _⟩
  · have HE : Hid (R = ([], (p : Int), false, 5)) := Lib.hid (by rw [hR, if_pos (.inr (.inr hq))])
    have g39 : ((byt l p : Int) != 39) = true := by simp; omega
    have g34 : ((byt l p : Int) != 34) = true := by simp; omega
    clear hR hq
    go_enter Tryz.func38, Tryz.ntmps38
    go_wp2_with fail
    exact bodyPost_ret (v := .tuple #[.string ⟨#[]⟩, .int .i64 p, .bool false, .int .i64 5]) (by simp [results, Tryz.results38, go_sem]) rfl ⟨by rw [HE.out], Below.refl _ _⟩
end Go.Proofs.YtjfgcbikdibjeaaGreatDoor
