/- The walk of note.Within. -/
import Derived.Test.YtjnmgmepolpcdaaDoorWSkip
namespace Go.Proofs.YtjnmgmepolpcdaaDoor
open Go.RowKit U Go.Proofs

/-- The variables that the function captures lie in blocks of their own. -/
structure Boxes (W0 : World) (g : Nat) (l : List UInt8) (n : Int) (bs bp bn : Nat) : Prop where
  s : W0.cell? ⟨bs, 0, none⟩ = some (.string ⟨l.toArray⟩)
  p : W0.cell? ⟨bp, 0, none⟩ = some (.pointer (some ⟨g, 0, none⟩))
  n : W0.cell? ⟨bn, 0, none⟩ = some (.int .i64 n)
  ns : bs ≠ g
  np : bp ≠ g
  nn : bn ≠ g
theorem Boxes.at {W0 w : World} {g : Nat} {l : List UInt8} {n : Int} {bs bp bn : Nat} (h : Boxes W0 g l n bs bp bn) (hg : W0.grownBy w (some g)) :
    w.cell? ⟨bs, 0, none⟩ = some (.string ⟨l.toArray⟩) ∧ w.cell? ⟨bp, 0, none⟩ = some (.pointer (some ⟨g, 0, none⟩)) ∧ w.cell? ⟨bn, 0, none⟩ = some (.int .i64 n) :=
  ⟨hg.cell h.s (fun e => h.ns (by injection e)), hg.cell h.p (fun e => h.np (by injection e)), hg.cell h.n (fun e => h.nn (by injection e))⟩
set_option maxRecDepth 100000 in
set_option maxHeartbeats 4000000 in
theorem asks_is {W0 : World} {g : Nat} {l : List UInt8} {b0 : Nat} {n : Int} {bs bp bn : Nat} (hB : Boxes W0 g l n bs bp bn) (hs : l.length ≤ 1000000) :
    RowIs W0 g l b0 (rowW l n) 50 #[.pointer (some ⟨bs, 0, none⟩), .pointer (some ⟨bp, 0, none⟩), .pointer (some ⟨bn, 0, none⟩)] := by
  intro w p xs nr lv h hp hrf
  have hK := fun w => kind_n l p w (by omega) hp
  have hI := fun w => in_n l p w (by omega) hp
  obtain ⟨c0, c1, c2, c3, c4⟩ := h.cells
  obtain ⟨d0, d1, d2⟩ := hB.at h.only
  have hkr : 1 ≤ kindM l p ∧ kindM l p ≤ 5 := kindF_range _ _
  have hk5 : kindM l p = 5 → p + run whN l p < l.length := fun h5 => by
    have := kind5 (l := l) (f := rowFrom l p) h5
    rw [hrf] at this
    exact this.1
  obtain ⟨Q, hQ⟩ : ∃ Q, Q = rowW l n p := ⟨_, rfl⟩
  rw [← hQ]
  unfold rowW at hQ
  generalize kindM l p = k at *
  generalize inM l p = i at *
  have HQ := Lib.hid hQ
  have HK5 := Lib.hid hk5
  have HB := Lib.hid hB
  have H := Lib.hid h
  clear hQ hrf hk5 hB h
  go_enter Tryd.func50, Tryd.ntmps50
  go_wp2_with fail
  go_upto_region 1 with fail
  go_cut [4] (fun s wx => s = .int .i64 k ∧ PS W0 wx g l p b0 xs nr lv)
  case first =>
    go_quiet ((go_at_call 49; exact qs (hK _)))
    go_wp2_with fail
    go_meet
    exact ⟨rfl, H.out.drewN _⟩
  case rest =>
    obtain ⟨rfl, h1⟩ := hcut
    clear c0 c1 c2 c3 c4 d0 d1 d2 H hK
    obtain ⟨c0, c1, c2, c3, c4⟩ := h1.cells
    obtain ⟨d0, d1, d2⟩ := HB.out.at h1.only
    have H := Lib.hid h1
    clear h1
    by_cases h3 : k = 3
    · have HE : Hid (Q = some p) := Lib.hid (by rw [HQ.out, if_neg (by omega), if_pos (.inl h3)])
      subst h3
      go_wp2_with fail
      go_ret
      exact ⟨by rw [HE.out]; rfl, by rw [HE.out]; exact hp, by rw [HE.out]; exact H.out⟩
    · have k3 : ((k : Int) != 3) = true := by simp; omega
      by_cases h4 : k = 4
      · have HE : Hid (Q = some p) := Lib.hid (by rw [HQ.out, if_neg (by omega), if_pos (.inr h4)])
        subst h4
        go_wp2_with fail
        go_ret
        exact ⟨by rw [HE.out]; rfl, by rw [HE.out]; exact hp, by rw [HE.out]; exact H.out⟩
      · have k4 : ((k : Int) != 4) = true := by simp; omega
        by_cases h5 : k = 5
        · subst h5
          have hlt := HK5.out rfl
          have hq := HQ.out
          rw [if_pos rfl] at hq
          clear HK5 HQ k3 k4 h3 h4
          by_cases hni : n < (i : Int)
          · have HE : Hid (Q = none) := Lib.hid (by rw [hq, if_pos hni])
            clear hq
            go_upto_region 4 with fail
            go_cut [26] (fun s wx => s = .bool true ∧ PS W0 wx g l p b0 xs nr lv)
            case first =>
              go_quiet ((go_at_call 30; exact qs (hI _)))
              go_wp2_with fail
              go_meet
              exact ⟨rfl, H.out.drewN _⟩
            case rest =>
              obtain ⟨rfl, h1⟩ := hcut
              have H := Lib.hid h1
              clear h1
              go_wp2_with fail
              go_ret
              exact ⟨by rw [HE.out]; rfl, by rw [HE.out]; exact hp, by rw [HE.out]; exact H.out⟩
          · have HE : Hid (Q = some (p + run whN l p)) := Lib.hid (by rw [hq, if_neg hni])
            clear hq
            go_upto_region 4 with fail
            go_cut [26] (fun s wx => s = .bool false ∧ PS W0 wx g l p b0 xs nr lv)
            case first =>
              go_quiet ((go_at_call 30; exact qs (hI _)))
              go_wp2_with fail
              go_meet
              exact ⟨rfl, H.out.drewN _⟩
            case rest =>
              obtain ⟨rfl, h1⟩ := hcut
              clear c0 c1 c2 c3 c4 d0 d1 d2 H hI
              have H := Lib.hid h1
              clear h1
              go_wp2_with fail
              go_loopg [] (run whN l p) (fun gk wr => ∃ q, Hid (PS W0 wr g l q b0 xs nr lv) ∧ q < l.length ∧ gk = run whN l q ∧ Hid (q + run whN l q = p + run whN l p))
              case atStart => exact ⟨p, H, by omega, rfl, Lib.hid rfl⟩
              case round =>
                obtain ⟨q, H, hql, hgk, HR⟩ := hrel
                obtain ⟨c0, c1, c2, c3, c4⟩ := H.out.cells
                obtain ⟨d0, d1, d2⟩ := HB.out.at H.out.only
                have hW := fun w => white_c (byt l q) w (byt_lt l q)
                have hrr := HR.out
                cases hw : whN (byt l q) with
                | true =>
                  rw [hw] at hW
                  have hst := run_step hql hw
                  have hq1 : q + 1 < l.length := by
                    rcases Nat.lt_or_ge (q + 1) l.length with h | h
                    · exact h
                    · rw [run_end (p := q + 1) h] at hst; omega
                  have HR2 : Hid (q + 1 + run whN l (q + 1) = p + run whN l p) := Lib.hid (by omega)
                  clear hw
                  go_upto_region 6 with fail
                  go_cut [33] (fun s wx => s = .bool true ∧ PS W0 wx g l q b0 xs nr lv)
                  case first =>
                    clear hst hrr hgk
                    go_quiet ((go_at_call 51; exact qs (hW _)))
                    go_wp2_with fail
                    go_meet
                    exact ⟨rfl, H.out.drewN _⟩
                  case rest =>
                    obtain ⟨rfl, h1⟩ := hcut
                    clear c0 c1 c2 c3 c4 d0 d1 d2 H hW
                    obtain ⟨c0, c1, c2, c3, c4⟩ := h1.cells
                    obtain ⟨d0, d1, d2⟩ := HB.out.at h1.only
                    have f1 := h1.full.free 1
                    have hgo := h1.go (q + 1)
                    rw [show ((q + 1 : Nat) : Int) = (q : Int) + 1 by omega] at hgo
                    have HG := Lib.hid hgo
                    clear h1 hgo
                    have hw1 : IntKind.i64.wrap ((q : Int) + 1) = (q : Int) + 1 := IntWalk.i64_in _ (by omega)
                    go_wp2_with fail
                    go_roundg (run whN l (q + 1))
                    case measure => omega
                    case rel => exact ⟨q + 1, HG, hq1, rfl, HR2⟩
                | false =>
                  rw [hw] at hW
                  have hst := run_stop hw
                  have HR2 : Hid (p + run whN l p = q) := Lib.hid (by omega)
                  clear hw
                  go_upto_region 6 with fail
                  go_cut [33] (fun s wx => s = .bool false ∧ PS W0 wx g l q b0 xs nr lv)
                  case first =>
                    clear hst hrr hgk
                    go_quiet ((go_at_call 51; exact qs (hW _)))
                    go_wp2_with fail
                    go_meet
                    exact ⟨rfl, H.out.drewN _⟩
                  case rest =>
                    obtain ⟨rfl, h1⟩ := hcut
                    clear c0 c1 c2 c3 c4 d0 d1 d2 H hW
                    have H := Lib.hid h1
                    clear h1 hst hrr hgk
                    go_wp2_with fail
                    go_ret
                    exact ⟨by rw [HE.out]; rfl, by rw [HE.out, HR2.out]; exact Nat.le_of_lt hql, by rw [HE.out, HR2.out]; exact H.out⟩
        · have HE : Hid (Q = none) := Lib.hid (by rw [HQ.out, if_neg h5, if_neg (by omega)])
          have k5 : ((k : Int) != 5) = true := by simp; omega
          go_wp2_with fail
          go_ret
          exact ⟨by rw [HE.out]; rfl, by rw [HE.out]; exact hp, by rw [HE.out]; exact H.out⟩
/-- Rows of a call within lie in the caller's own memory too. -/
theorem own_lower {w : World} {B B' : Nat} {e : TypeId} {s : Nat} {v : Value} {n : Nat} {xs : List Value} (h : w.ownsRow B e s v n xs) (hB : B' ≤ B) : w.ownsRow B' e s v n xs := by
  rcases h.2 with ⟨h1, h2⟩ | ⟨g, cap, cur, h1, h2, h3⟩
  · exact ⟨h.1, .inl ⟨h1, h2⟩⟩
  · exact ⟨h.1, .inr ⟨g, cap, cur, h1, Nat.le_trans hB h2, h3⟩⟩
def Begun (w wx : World) (l : List UInt8) (b : Nat) (n : Int) (s : Value) : Prop :=
  ∃ g bp, s = .pointer (some ⟨bp, 0, none⟩) ∧ Boxes wx g l n w.heap.size bp (w.heap.size + 1) ∧ Full wx g 66 [.string ⟨l.toArray⟩, .int .i64 b, .int .i64 b, .slice none 0 0, .bool false] ∧ Below w.heap.size w wx ∧ w.heap.size ≤ g ∧ g < wx.heap.size
theorem begun1 {w wA : World} {l : List UInt8} {b : Nat} {n : Int} (c0 : wA.cell? ⟨w.heap.size, 0, none⟩ = some (.string ⟨l.toArray⟩)) (c1 : wA.cell? ⟨w.heap.size + 1, 0, none⟩ = some (.int .i64 n)) (hbel : Below w.heap.size w wA) (hsz : wA.heap.size = w.heap.size + 2) :
    Begun w ((wA.alloc (.cells #[.string ⟨l.toArray⟩, .int .i64 b, .int .i64 b, .slice none 0 0, .bool false] 66)).alloc (.cells #[.pointer (some ⟨w.heap.size + 2, 0, none⟩)] 64)).drew l b n (.pointer (some ⟨w.heap.size + 2 + 1, 0, none⟩)) := by
  refine ⟨w.heap.size + 2, w.heap.size + 2 + 1, rfl, ⟨?_, ?_, ?_, by omega, by omega, by omega⟩, ?_, ?_, by omega, ?_⟩
  · show World.cell? (World.alloc _ _) _ = _
    rw [World.cell?_alloc_past _ _ _ (by simp; omega), World.cell?_alloc_past _ _ _ (by show _ < _; omega)]; exact c0
  · show World.cell? (World.alloc _ _) _ = _
    rw [World.cell?_alloc_at _ _ _ _ (by simp [hsz])]; rfl
  · show World.cell? (World.alloc _ _) _ = _
    rw [World.cell?_alloc_past _ _ _ (by simp; omega), World.cell?_alloc_past _ _ _ (by show _ < _; omega)]; exact c1
  · have := (Full.new wA 66 [.string ⟨l.toArray⟩, .int .i64 b, .int .i64 b, .slice none 0 0, .bool false]).alloc (.cells #[.pointer (some ⟨w.heap.size + 2, 0, none⟩)] 64)
    rw [hsz] at this
    exact this.drewN 1
  · exact ((hbel.alloc (by omega) _).alloc (by simp; omega) _).drew
  · show _ < (World.alloc _ _).heap.size
    simp [hsz]
theorem begun2 {w wA : World} {l : List UInt8} {b : Nat} {n : Int} (c0 : wA.cell? ⟨w.heap.size, 0, none⟩ = some (.string ⟨l.toArray⟩)) (c1 : wA.cell? ⟨w.heap.size + 1, 0, none⟩ = some (.int .i64 n)) (hbel : Below w.heap.size w wA) (hsz : wA.heap.size = w.heap.size + 2) :
    Begun w ((wA.alloc (.cells #[.pointer (some ⟨w.heap.size + 2 + 1, 0, none⟩)] 64)).alloc (.cells #[.string ⟨l.toArray⟩, .int .i64 b, .int .i64 b, .slice none 0 0, .bool false] 66)).drew l b n (.pointer (some ⟨w.heap.size + 2, 0, none⟩)) := by
  refine ⟨w.heap.size + 2 + 1, w.heap.size + 2, rfl, ⟨?_, ?_, ?_, by omega, by omega, by omega⟩, ?_, ?_, by omega, ?_⟩
  · show World.cell? (World.alloc _ _) _ = _
    rw [World.cell?_alloc_past _ _ _ (by simp; omega), World.cell?_alloc_past _ _ _ (by show _ < _; omega)]; exact c0
  · show World.cell? (World.alloc _ _) _ = _
    rw [World.cell?_alloc_past _ _ _ (by simp; omega), World.cell?_alloc_at _ _ _ _ (by simp [hsz])]; rfl
  · show World.cell? (World.alloc _ _) _ = _
    rw [World.cell?_alloc_past _ _ _ (by simp; omega), World.cell?_alloc_past _ _ _ (by show _ < _; omega)]; exact c1
  · have := Full.new (wA.alloc (.cells #[.pointer (some ⟨w.heap.size + 2 + 1, 0, none⟩)] 64)) 66 [.string ⟨l.toArray⟩, .int .i64 b, .int .i64 b, .slice none 0 0, .bool false]
    rw [show (wA.alloc (.cells #[.pointer (some ⟨w.heap.size + 2 + 1, 0, none⟩)] 64)).heap.size = w.heap.size + 2 + 1 by simp [hsz]] at this
    exact this.drewN 1
  · exact ((hbel.alloc (by omega) _).alloc (by simp; omega) _).drew
  · show _ < (World.alloc _ _).heap.size
    simp [hsz]
theorem ask_within (cap : Array Value) (w : World) : Sem.run Tryd.prog (callFunc 50 cap) w = .ok (.enter 50 cap) w := by kernel_rfl
set_option maxRecDepth 100000 in
set_option maxHeartbeats 4000000 in
theorem within_c (l : List UInt8) (a n : Int) (w : World) (hs : l.length ≤ 1000000) :
    Calls Tryd.prog 28 #[.string ⟨l.toArray⟩, .int .i64 a, .int .i64 n] w (NotesRet (withinM l (heldM l a) n) w) := by
  have hH := fun w => noteHeld_c l a w (by omega)
  have hb := heldM_le l a
  generalize heldM l a = b at *
  have hwi : withinM l b n = withinOf (passR l b (rowW l n) true b [] false) := rfl
  generalize withinM l b n = R at *
  have HW := Lib.hid hwi
  clear hwi
  go_enter Tryd.func28, Tryd.ntmps28
  go_upto_region 1 with fail
  go_cut [10] (fun s wx => Begun w wx l b n s)
  case first =>
    have c0 : ((w.alloc (.cells #[.string ⟨l.toArray⟩] 9)).alloc (.cells #[.int .i64 n] 3)).cell? ⟨w.heap.size, 0, none⟩ = some (.string ⟨l.toArray⟩) := by
      rw [World.cell?_alloc_past _ _ _ (by simp), World.cell?_alloc_at _ _ _ _ rfl]; rfl
    have c1 : ((w.alloc (.cells #[.string ⟨l.toArray⟩] 9)).alloc (.cells #[.int .i64 n] 3)).cell? ⟨w.heap.size + 1, 0, none⟩ = some (.int .i64 n) := by
      rw [World.cell?_alloc_at _ _ _ _ (by simp)]; rfl
    have hbel : Below w.heap.size w ((w.alloc (.cells #[.string ⟨l.toArray⟩] 9)).alloc (.cells #[.int .i64 n] 3)) := ((Below.refl _ _).alloc (Nat.le_refl _) _).alloc (by simp) _
    have hsz : ((w.alloc (.cells #[.string ⟨l.toArray⟩] 9)).alloc (.cells #[.int .i64 n] 3)).heap.size = w.heap.size + 2 := by simp
    generalize (w.alloc (.cells #[.string ⟨l.toArray⟩] 9)).alloc (.cells #[.int .i64 n] 3) = wA at *
    have hne := World.new_ne wA _ c0
    simp only at hne
    go_region_held3 (fun w' => w'.cell? ⟨w.heap.size, 0, none⟩ = some (.string ⟨l.toArray⟩))
      (go_keep)
      (first
        | (go_at_call 44; (with_reducible refine (hH _).mono ?_); rintro e w3 ⟨rfl, rfl⟩))
    all_goals
      go_wp2_with fail
      go_meet
      first
        | exact begun1 c0 c1 hbel hsz
        | exact begun2 c0 c1 hbel hsz
  case rest =>
    obtain ⟨g, bp, rfl, hB, hF, hbel, hwg, hgl⟩ := hcut
    have hps : PS wc wc g l b b [] false (.slice none 0 0) := ⟨only_refl _ _, hF, World.ownsRow_nil _ _ _ _⟩
    have hP0 := pass_c (rowW l n) _ _ (asks_is hB hs) (ask_within _) hps hs hb (Nat.zero_le _)
    obtain ⟨d0, d1, d2⟩ := hB.at hps.only
    have HB := Lib.hid hB
    have HBel := Lib.hid hbel
    clear hps hB hF hbel
    generalize passR l b (rowW l n) true b [] false = r at *
    obtain ⟨acc, nr, p, ok⟩ := r
    have hmf : ∀ (fn : Fn) (first cap : Array Value) (w : World), (Instr.makeFunc fn first cap).run Tryd.prog w = .ok (.func fn first cap) w := fun _ _ _ _ => rfl
    go_wp2_with fail
    refine hP0.mono ?_
    rintro e w1 ⟨rfl, hpl, hal, lv, hps⟩
    have hw2 := HW.out
    unfold withinOf at hw2
    simp only at hpl hal hw2
    obtain ⟨va, vc, rfl⟩ := own_shape hps.own
    have HPS := Lib.hid hps
    have hpc : PS wc w1 g l p b acc nr (.slice va acc.length vc) := hps
    obtain ⟨c0, c1, c2, c3, c4⟩ := hpc.cells
    obtain ⟨d0', d1', d2'⟩ := HB.out.at hpc.only
    clear hP0 hps hpc HW d0 d1 d2 d0' d2'
    cases ok with
    | true =>
      have HE : Hid (R = (acc, nr, (p : Int), 0)) := Lib.hid hw2
      clear hw2
      go_wp2_with fail
      go_quiet (fail)
      go_wp2_with fail
      exact bodyPost_ret (v := .tuple #[.slice va acc.length vc, .bool nr, .int .i64 p, .int .i64 0]) (by simp [results, Tryd.results28, go_sem]) rfl ⟨_, by rw [HE.out], by rw [HE.out]; exact own_lower (HPS.out.drewN _).own HBel.out.size, below_only HBel.out (HPS.out.drewN _).only hwg HBel.out.size⟩
    | false =>
      have HE : Hid (R = ([], false, (p : Int), 5)) := Lib.hid hw2
      clear hw2
      go_wp2_with fail
      go_quiet (fail)
      go_wp2_with fail
      exact bodyPost_ret (v := .tuple #[.slice none 0 0, .bool false, .int .i64 p, .int .i64 5]) (by simp [results, Tryd.results28, go_sem]) rfl (by rw [HE.out]; exact notes_no _ _ _ _ _ (below_only HBel.out (HPS.out.drewN _).only hwg HBel.out.size))
end Go.Proofs.YtjnmgmepolpcdaaDoor
