/- The walks of package note: a passer's marks and comments. -/
import Derived.Test.YtjnmgmepolpcdaaDoorWRows2
import Derived.Test.YtjnmgmepolpcdaaDoorNoteMem
namespace Go.Proofs.YtjnmgmepolpcdaaDoor
open Go.RowKit U Go.Proofs

/-- A passer as it stands. -/
structure PS (W0 w : World) (g : Nat) (l : List UInt8) (p b0 : Nat) (xs : Notes) (nr : Bool) (lv : Value) : Prop where
  only : W0.grownBy w (some g)
  full : Full w g 66 [.string ⟨l.toArray⟩, .int .i64 p, .int .i64 b0, lv, .bool nr]
  own : w.ownsRow W0.heap.size 38 2 lv xs.length (cmts xs)
theorem PS.drewN {W0 w : World} {g : Nat} {l : List UInt8} {p b0 : Nat} {xs : Notes} {nr : Bool} {lv : Value} (h : PS W0 w g l p b0 xs nr lv) (n : Nat) : PS W0 (w.drewN n) g l p b0 xs nr lv :=
  ⟨only_drewN h.only n, h.full.drewN n, h.own⟩
theorem PS.cells {W0 w : World} {g : Nat} {l : List UInt8} {p b0 : Nat} {xs : Notes} {nr : Bool} {lv : Value} (h : PS W0 w g l p b0 xs nr lv) :
    w.cell? ⟨g, 0, none⟩ = some (.string ⟨l.toArray⟩) ∧ w.cell? ⟨g, 1, none⟩ = some (.int .i64 p) ∧ w.cell? ⟨g, 2, none⟩ = some (.int .i64 b0) ∧ w.cell? ⟨g, 3, none⟩ = some lv ∧ w.cell? ⟨g, 4, none⟩ = some (.bool nr) :=
  ⟨h.full.cell 0, h.full.cell 1, h.full.cell 2, h.full.cell 3, h.full.cell 4⟩
/-- It answers so, and nothing but draws has turned. -/
def Quiet (w : World) (v : Value) (e : Ending) (w' : World) : Prop := e = .returned v ∧ ∃ n, w' = w.drewN n
def marksB (l : List UInt8) (p : Nat) : Bool := decide (rowFrom l p = p ∧ (kindM l p = 3 ∨ kindM l p = 4))
set_option maxRecDepth 100000 in
set_option maxHeartbeats 4000000 in
theorem marks_c {W0 w : World} {g : Nat} {l : List UInt8} {p b0 : Nat} {xs : Notes} {nr : Bool} {lv : Value} (h : PS W0 w g l p b0 xs nr lv) (hs : l.length ≤ 1073741824) (hp : p ≤ l.length) :
    Calls Tryd.prog 64 #[.pointer (some ⟨g, 0, none⟩)] w (Quiet w (.bool (marksB l p))) := by
  obtain ⟨c0, c1, c2, c3, c4⟩ := h.cells
  have hK := fun w => kind_n l p w hs hp
  have hC := fun w => col_n l p w hs hp
  have hf := rowFrom_le l p
  have hB : marksB l p = decide (p - rowFrom l p = 0 ∧ (kindM l p = 3 ∨ kindM l p = 4)) := by
    unfold marksB
    have : rowFrom l p = p ↔ p - rowFrom l p = 0 := by omega
    simp only [this]
  generalize marksB l p = b at *
  generalize kindM l p = k at *
  generalize p - rowFrom l p = d at *
  clear hf h c2 c3 c4
  have HB := Lib.hid hB
  clear hB
  have hk : ∀ (x : Bool), decide (d = 0 ∧ (k = 3 ∨ k = 4)) = x → Calls Tryd.prog 64 #[.pointer (some ⟨g, 0, none⟩)] w (Quiet w (.bool x)) := by
    intro x hx
    unfold Quiet
    by_cases hd : d = 0
    · subst hd
      by_cases h3 : k = 3
      · obtain rfl : x = true := by rw [← hx, h3]; rfl
        subst h3
        clear hx HB
        go_enter Tryd.func64, Tryd.ntmps64
        go_wp2_with fail
        go_quiet ((go_at_call 49; exact qs (hK _)))
        go_wp2_with fail
        go_quiet ((go_at_call 101; exact qs2 (hC _)))
        go_wp2_with fail
        go_ret
        exact ⟨rfl, _, World.drewN_drewN _ _ _⟩
      have g3 : ((k : Int) == 3) = false := by rw [beq_eq_false_iff_ne]; omega
      by_cases h4 : k = 4
      · obtain rfl : x = true := by rw [← hx, h4]; rfl
        subst h4
        clear hx HB
        go_enter Tryd.func64, Tryd.ntmps64
        go_wp2_with fail
        go_quiet ((go_at_call 49; exact qs (hK _)))
        go_wp2_with fail
        go_quiet ((go_at_call 101; exact qs2 (hC _)))
        go_wp2_with fail
        go_ret
        exact ⟨rfl, _, World.drewN_drewN _ _ _⟩
      have g4 : ((k : Int) == 4) = false := by rw [beq_eq_false_iff_ne]; omega
      obtain rfl : x = false := by rw [← hx]; simp [h3, h4]
      clear hx HB h3 h4
      go_enter Tryd.func64, Tryd.ntmps64
      go_wp2_with fail
      go_quiet ((go_at_call 49; exact qs (hK _)))
      go_wp2_with fail
      go_quiet ((go_at_call 101; exact qs2 (hC _)))
      go_wp2_with fail
      go_ret
      exact ⟨rfl, _, World.drewN_drewN _ _ _⟩
    · have gd : ((d : Int) == 0) = false := by rw [beq_eq_false_iff_ne]; omega
      obtain rfl : x = false := by rw [← hx]; simp [hd]
      clear hx HB hd
      go_enter Tryd.func64, Tryd.ntmps64
      go_wp2_with fail
      go_quiet ((go_at_call 49; exact qs (hK _)))
      go_wp2_with fail
      go_quiet ((go_at_call 101; exact qs2 (hC _)))
      go_wp2_with fail
      go_ret
      exact ⟨rfl, _, World.drewN_drewN _ _ _⟩
  exact hk b HB.out.symm
theorem note_split {l : List UInt8} {p : Nat} (h : isNote l p = true) : byt l p = 35 ∧ (p = 0 ∨ ∃ k, p = k + 1 ∧ endsM l k = true) := by
  unfold isNote at h
  simp at h
  refine ⟨h.1, ?_⟩
  rcases Nat.eq_zero_or_pos p with h0 | h0
  · exact .inl h0
  · right
    refine ⟨p - 1, by omega, ?_⟩
    rcases h.2 with h2 | h2
    · omega
    · exact h2
theorem note_split_no {l : List UInt8} {p : Nat} (h : isNote l p = false) : byt l p ≠ 35 ∨ ∃ k, p = k + 1 ∧ byt l (k + 1) = 35 ∧ endsM l k = false := by
  unfold isNote at h
  by_cases h35 : byt l p = 35
  · right
    simp [h35] at h
    refine ⟨p - 1, by omega, ?_, h.2⟩
    rw [show p - 1 + 1 = p by omega]; exact h35
  · exact .inl h35
set_option maxRecDepth 100000 in
set_option maxHeartbeats 4000000 in
theorem note_no {W0 w : World} {g : Nat} {l : List UInt8} {p b0 : Nat} {xs : Notes} {nr : Bool} {lv : Value} (h : PS W0 w g l p b0 xs nr lv) (hs : l.length ≤ 1073741824) (hp : p < l.length) (hn : isNote l p = false) :
    Calls Tryd.prog 65 #[.pointer (some ⟨g, 0, none⟩)] w (Quiet w (.bool false)) := by
  obtain ⟨c0, c1, c2, c3, c4⟩ := h.cells
  unfold Quiet
  rcases note_split_no hn with h35 | ⟨k, rfl, h35, he⟩
  · have g35 : ((byt l p : Int) != 35) = true := by simp; omega
    clear hn h35 h c2 c3 c4
    go_enter Tryd.func65, Tryd.ntmps65
    go_wp2_with fail
    go_quiet (fail)
    go_wp2_with fail
    go_ret
    exact ⟨rfl, _, rfl⟩
  · obtain ⟨q, hq⟩ : ∃ q, q = k + 1 := ⟨_, rfl⟩
    rw [← hq] at h35 hp c1
    have g35 : ((byt l q : Int) != 35) = false := by rw [h35]; rfl
    have hE := fun w => ends_c l k w hs (by omega)
    have hkq : (k : Int) = (q : Int) - 1 := by omega
    rw [he, hkq] at hE
    have g0 : 0 < q := by omega
    have gl : ((q : Int) == (l.length : Int)) = false := by rw [beq_eq_false_iff_ne]; omega
    have gw : IntKind.i64.wrap ((q : Int) - 1) = (q : Int) - 1 := IntWalk.i64_in _ (by omega)
    clear hn h35 h c2 c3 c4 he hq hkq
    go_enter Tryd.func65, Tryd.ntmps65
    go_wp2_with fail
    go_quiet ((go_at_call 102; exact qs (hE _)))
    go_wp2_with fail
    go_ret
    exact ⟨rfl, _, rfl⟩
end Go.Proofs.YtjnmgmepolpcdaaDoor
