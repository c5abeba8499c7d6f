/- The walk of bosketlaw10.DireTwice. -/
import Derived.Test.YtjnmgmepolpcdaaDoorLawDireForms
namespace Go.Proofs.YtjnmgmepolpcdaaDoor
open Go.RowKit U Go.Proofs

/-- The world since the lists were made. -/
def Since2 (w0 W w : World) : Prop := At w0 w ∧ Below W.heap.size W w
theorem Since2.drew {w0 W w : World} (h : Since2 w0 W w) : Since2 w0 W w.drew := ⟨h.1.drewN 1, h.2.drew⟩
theorem Since2.alloc {w0 W w : World} (h : Since2 w0 W w) (o : Obj) : Since2 w0 W (w.alloc o) := ⟨h.1.alloc o, h.2.alloc h.2.size o⟩
theorem Since2.awake {w0 W w : World} (h : Since2 w0 W w) : Calls Tryd.prog 32 #[] w fun e w' => e = .returned (.bool true) ∧ Since2 w0 W w' := by
  refine (awake10_c w h.1.env).mono ?_
  rintro e w' ⟨rfl, hb⟩
  exact ⟨rfl, h.1.step hb, h.2.trans (hb.mono h.2.size)⟩
theorem Since2.two {w0 W w : World} (a c : List UInt8) (v : Value) (x : Bool) (ha : a.length ≤ 1000) (hc : c.length ≤ 1000) (hx : twiceM [[37, 66, 65, 82], a] c = x) (h : Since2 w0 W w) (hsl : Sl w v (strs [[37, 66, 65, 82], a])) :
    Calls Tryd.prog 35 #[v, .string ⟨c.toArray⟩] w fun e w' => e = .returned (.bool x) ∧ Since2 w0 W w' := by
  refine (twice_c [[37, 66, 65, 82], a] _ c _ h.1.env hsl (by simp) (by simp; omega) (by omega)).mono ?_
  rw [hx]
  rintro e w' ⟨rfl, hb⟩
  exact ⟨rfl, h.1.step hb, h.2.trans (hb.mono h.2.size)⟩
theorem sl_two (w : World) (e : TypeId) (a : List UInt8) : Sl (w.alloc (.cells #[.string ⟨#[37, 66, 65, 82]⟩, .string ⟨a.toArray⟩] e)) (.slice (some ⟨w.heap.size, 0, none⟩) 2 2) (strs [[37, 66, 65, 82], a]) := sl_new (w := w) (e := e) (strs [[37, 66, 65, 82], a]) (by simp [strs])
theorem sl_drew {w : World} {v : Value} {xs : List Value} (h : Sl w v xs) : Sl w.drew v xs := h.below (Below.refl _ _).drew
theorem Since2.none {w0 W w : World} (h : Since2 w0 W w) (c : List UInt8) (hc : c.length ≤ 1000) :
    Calls Tryd.prog 35 #[.slice none 0 0, .string ⟨c.toArray⟩] w fun e w' => e = .returned (.bool false) ∧ Since2 w0 W w' := by
  refine (twice_c [] _ c _ h.1.env (Or.inl ⟨rfl, Or.inl rfl⟩) (by simp) (by simp) (by omega)).mono ?_
  rintro e w' ⟨rfl, hb⟩
  exact ⟨rfl, h.1.step hb, h.2.trans (hb.mono h.2.size)⟩
theorem Since2.at' {w0 W w : World} (h : Since2 w0 W w) : At w0 w := h.1
theorem keep2 {w W w' : World} {a1 a2 : Addr} {x1 x2 : Value} (hs : Since2 w W w') (H : Hid (a1.block < W.heap.size ∧ a2.block < W.heap.size ∧ W.cell? a1 = some x1 ∧ W.cell? a2 = some x2)) :
    Since2 w W w' ∧ w'.cell? a1 = some x1 ∧ w'.cell? a2 = some x2 :=
  ⟨hs, (hs.2.cell H.out.1).trans H.out.2.2.1, (hs.2.cell H.out.2.1).trans H.out.2.2.2⟩
theorem two_cells (w : World) (e e2 : TypeId) (A B : List Value) :
    (∀ i x, A[i]? = some x → ((w.alloc (.cells A.toArray e)).alloc (.cells B.toArray e2)).cell? ⟨w.heap.size, i, none⟩ = some x) ∧
    (∀ i x, B[i]? = some x → ((w.alloc (.cells A.toArray e)).alloc (.cells B.toArray e2)).cell? ⟨w.heap.size + 1, i, none⟩ = some x) ∧
    w.heap.size + 1 < ((w.alloc (.cells A.toArray e)).alloc (.cells B.toArray e2)).heap.size := by
  refine ⟨fun i x hx => ?_, fun i x hx => ?_, by simp⟩
  · rw [((Below.refl _ _).alloc (Nat.le_refl _) (.cells B.toArray e2)).cell (p := ⟨w.heap.size, i, none⟩) (by simp)]
    exact cells_at w e A i x hx
  · have := cells_at (w.alloc (.cells A.toArray e)) e2 B i x hx
    rwa [show (w.alloc (.cells A.toArray e)).heap.size = w.heap.size + 1 by simp] at this
def twoL : List (List UInt8) := [[37, 89, 65, 77, 76, 32, 49, 46, 49], [37, 89, 65, 77, 76, 32, 49, 46, 50], [37, 84, 65, 71, 32, 33, 32, 120], [37, 84, 65, 71, 32, 33, 32, 121], [37, 84, 65, 71, 32, 33, 33, 32, 120], [37, 84, 65, 71, 32, 33, 101, 33, 32, 120], [37, 70, 79, 79, 32, 120], [37, 70, 79, 79, 32, 120]]
def grpL : List Int := [0, 0, 1, 1, 2, 3, 4, 5]
theorem two_ok : ∀ i, i < 8 → ∀ k, k < 8 → twiceM [[37, 66, 65, 82], twoL.getD i []] (twoL.getD k []) = ((grpL.getD i 0 == grpL.getD k 0) && decide ((i : Int) < 6)) ∧ (twoL.getD i []).length ≤ 40 ∧ (twoL.getD k []).length ≤ 40 := by decide +kernel
theorem ints_at {xs : List Int} {k : Nat} (h : k < xs.length) : (xs.map (Value.int .i64))[k]? = some (.int .i64 (xs.getD k 0)) := by simp [h]
set_option maxRecDepth 100000 in
set_option maxHeartbeats 16000000 in
theorem direTwice_c (n m : Int) (w : World) (hE : Env w) (_hn0 : -9223372036854775808 ≤ n) (_hn1 : n ≤ 9223372036854775807) (_hm0 : -9223372036854775808 ≤ m) (_hm1 : m ≤ 9223372036854775807) :
    Calls Tryd.prog 14 #[.int .i64 n, .int .i64 m] w fun e w' => e = .returned (.bool true) ∧ Below w.heap.size w w' := by
  have hA := At.refl hE
  have hL1 := fun w => low_j n 8 (low n 8) w (by omega) (by omega) rfl
  have hL2 := fun w => low_j m 8 (low m 8) w (by omega) (by omega) rfl
  have hi := low_lt n 8 (by omega)
  have hk := low_lt m 8 (by omega)
  generalize low n 8 = i at *
  generalize low m 8 = k at *
  obtain ⟨o1, o2, o3⟩ := two_ok i hi k hk
  have h3 := two_cells w 9 3 (strs twoL) (grpL.map (Value.int .i64))
  have c1 := h3.1 i _ (strs_at2 (xs := twoL) hi)
  have c2 := h3.1 k _ (strs_at2 (xs := twoL) hk)
  have d1 := h3.2.1 i _ (ints_at (xs := grpL) hi)
  have d2 := h3.2.1 k _ (ints_at (xs := grpL) hk)
  have h4 := h3.2.2
  clear h3
  change ((w.alloc (.cells #[.string ⟨#[37, 89, 65, 77, 76, 32, 49, 46, 49]⟩, .string ⟨#[37, 89, 65, 77, 76, 32, 49, 46, 50]⟩, .string ⟨#[37, 84, 65, 71, 32, 33, 32, 120]⟩, .string ⟨#[37, 84, 65, 71, 32, 33, 32, 121]⟩, .string ⟨#[37, 84, 65, 71, 32, 33, 33, 32, 120]⟩, .string ⟨#[37, 84, 65, 71, 32, 33, 101, 33, 32, 120]⟩, .string ⟨#[37, 70, 79, 79, 32, 120]⟩, .string ⟨#[37, 70, 79, 79, 32, 120]⟩] 9)).alloc (.cells #[.int .i64 0, .int .i64 0, .int .i64 1, .int .i64 1, .int .i64 2, .int .i64 3, .int .i64 4, .int .i64 5] 3)).cell? ⟨w.heap.size, i, none⟩ = _ at c1
  change ((w.alloc (.cells #[.string ⟨#[37, 89, 65, 77, 76, 32, 49, 46, 49]⟩, .string ⟨#[37, 89, 65, 77, 76, 32, 49, 46, 50]⟩, .string ⟨#[37, 84, 65, 71, 32, 33, 32, 120]⟩, .string ⟨#[37, 84, 65, 71, 32, 33, 32, 121]⟩, .string ⟨#[37, 84, 65, 71, 32, 33, 33, 32, 120]⟩, .string ⟨#[37, 84, 65, 71, 32, 33, 101, 33, 32, 120]⟩, .string ⟨#[37, 70, 79, 79, 32, 120]⟩, .string ⟨#[37, 70, 79, 79, 32, 120]⟩] 9)).alloc (.cells #[.int .i64 0, .int .i64 0, .int .i64 1, .int .i64 1, .int .i64 2, .int .i64 3, .int .i64 4, .int .i64 5] 3)).cell? ⟨w.heap.size, k, none⟩ = _ at c2
  change ((w.alloc (.cells #[.string ⟨#[37, 89, 65, 77, 76, 32, 49, 46, 49]⟩, .string ⟨#[37, 89, 65, 77, 76, 32, 49, 46, 50]⟩, .string ⟨#[37, 84, 65, 71, 32, 33, 32, 120]⟩, .string ⟨#[37, 84, 65, 71, 32, 33, 32, 121]⟩, .string ⟨#[37, 84, 65, 71, 32, 33, 33, 32, 120]⟩, .string ⟨#[37, 84, 65, 71, 32, 33, 101, 33, 32, 120]⟩, .string ⟨#[37, 70, 79, 79, 32, 120]⟩, .string ⟨#[37, 70, 79, 79, 32, 120]⟩] 9)).alloc (.cells #[.int .i64 0, .int .i64 0, .int .i64 1, .int .i64 1, .int .i64 2, .int .i64 3, .int .i64 4, .int .i64 5] 3)).cell? ⟨w.heap.size + 1, i, none⟩ = _ at d1
  change ((w.alloc (.cells #[.string ⟨#[37, 89, 65, 77, 76, 32, 49, 46, 49]⟩, .string ⟨#[37, 89, 65, 77, 76, 32, 49, 46, 50]⟩, .string ⟨#[37, 84, 65, 71, 32, 33, 32, 120]⟩, .string ⟨#[37, 84, 65, 71, 32, 33, 32, 121]⟩, .string ⟨#[37, 84, 65, 71, 32, 33, 33, 32, 120]⟩, .string ⟨#[37, 84, 65, 71, 32, 33, 101, 33, 32, 120]⟩, .string ⟨#[37, 70, 79, 79, 32, 120]⟩, .string ⟨#[37, 70, 79, 79, 32, 120]⟩] 9)).alloc (.cells #[.int .i64 0, .int .i64 0, .int .i64 1, .int .i64 1, .int .i64 2, .int .i64 3, .int .i64 4, .int .i64 5] 3)).cell? ⟨w.heap.size + 1, k, none⟩ = _ at d2
  change w.heap.size + 1 < ((w.alloc (.cells #[.string ⟨#[37, 89, 65, 77, 76, 32, 49, 46, 49]⟩, .string ⟨#[37, 89, 65, 77, 76, 32, 49, 46, 50]⟩, .string ⟨#[37, 84, 65, 71, 32, 33, 32, 120]⟩, .string ⟨#[37, 84, 65, 71, 32, 33, 32, 121]⟩, .string ⟨#[37, 84, 65, 71, 32, 33, 33, 32, 120]⟩, .string ⟨#[37, 84, 65, 71, 32, 33, 101, 33, 32, 120]⟩, .string ⟨#[37, 70, 79, 79, 32, 120]⟩, .string ⟨#[37, 70, 79, 79, 32, 120]⟩] 9)).alloc (.cells #[.int .i64 0, .int .i64 0, .int .i64 1, .int .i64 1, .int .i64 2, .int .i64 3, .int .i64 4, .int .i64 5] 3)).heap.size at h4
  have hS : Since2 w ((w.alloc (.cells #[.string ⟨#[37, 89, 65, 77, 76, 32, 49, 46, 49]⟩, .string ⟨#[37, 89, 65, 77, 76, 32, 49, 46, 50]⟩, .string ⟨#[37, 84, 65, 71, 32, 33, 32, 120]⟩, .string ⟨#[37, 84, 65, 71, 32, 33, 32, 121]⟩, .string ⟨#[37, 84, 65, 71, 32, 33, 33, 32, 120]⟩, .string ⟨#[37, 84, 65, 71, 32, 33, 101, 33, 32, 120]⟩, .string ⟨#[37, 70, 79, 79, 32, 120]⟩, .string ⟨#[37, 70, 79, 79, 32, 120]⟩] 9)).alloc (.cells #[.int .i64 0, .int .i64 0, .int .i64 1, .int .i64 1, .int .i64 2, .int .i64 3, .int .i64 4, .int .i64 5] 3)) ((w.alloc (.cells #[.string ⟨#[37, 89, 65, 77, 76, 32, 49, 46, 49]⟩, .string ⟨#[37, 89, 65, 77, 76, 32, 49, 46, 50]⟩, .string ⟨#[37, 84, 65, 71, 32, 33, 32, 120]⟩, .string ⟨#[37, 84, 65, 71, 32, 33, 32, 121]⟩, .string ⟨#[37, 84, 65, 71, 32, 33, 33, 32, 120]⟩, .string ⟨#[37, 84, 65, 71, 32, 33, 101, 33, 32, 120]⟩, .string ⟨#[37, 70, 79, 79, 32, 120]⟩, .string ⟨#[37, 70, 79, 79, 32, 120]⟩] 9)).alloc (.cells #[.int .i64 0, .int .i64 0, .int .i64 1, .int .i64 1, .int .i64 2, .int .i64 3, .int .i64 4, .int .i64 5] 3)) := ⟨(hA.alloc _).alloc _, Below.refl _ _⟩
  generalize hW : ((w.alloc (.cells #[.string ⟨#[37, 89, 65, 77, 76, 32, 49, 46, 49]⟩, .string ⟨#[37, 89, 65, 77, 76, 32, 49, 46, 50]⟩, .string ⟨#[37, 84, 65, 71, 32, 33, 32, 120]⟩, .string ⟨#[37, 84, 65, 71, 32, 33, 32, 121]⟩, .string ⟨#[37, 84, 65, 71, 32, 33, 33, 32, 120]⟩, .string ⟨#[37, 84, 65, 71, 32, 33, 101, 33, 32, 120]⟩, .string ⟨#[37, 70, 79, 79, 32, 120]⟩, .string ⟨#[37, 70, 79, 79, 32, 120]⟩] 9)).alloc (.cells #[.int .i64 0, .int .i64 0, .int .i64 1, .int .i64 1, .int .i64 2, .int .i64 3, .int .i64 4, .int .i64 5] 3)) = W at *
  have HW := Lib.hid hW
  clear hW
  generalize twoL.getD i [] = a at *
  generalize twoL.getD k [] = c at *
  generalize grpL.getD i 0 = gi at *
  generalize grpL.getD k 0 = gk at *
  have HK : Hid ((⟨w.heap.size, i, none⟩ : Addr).block < W.heap.size ∧ (⟨w.heap.size, k, none⟩ : Addr).block < W.heap.size ∧ W.cell? ⟨w.heap.size, i, none⟩ = some (.string ⟨a.toArray⟩) ∧ W.cell? ⟨w.heap.size, k, none⟩ = some (.string ⟨c.toArray⟩)) := Lib.hid ⟨by simp; omega, by simp; omega, c1, c2⟩
  clear c1 c2 h4
  have hi0 : (0 : Int) ≤ (i : Int) := by omega
  have hi1 : (i : Int) < 8 := by omega
  have hk0 : (0 : Int) ≤ (k : Int) := by omega
  have hk1 : (k : Int) < 8 := by omega
  have hq : ((gi == gk) = true ∧ decide ((i : Int) < 6) = true ∧ twiceM [[37, 66, 65, 82], a] c = true) ∨ ((gi == gk) = true ∧ decide ((i : Int) < 6) = false ∧ twiceM [[37, 66, 65, 82], a] c = false) ∨ ((gi == gk) = false ∧ twiceM [[37, 66, 65, 82], a] c = false) := by
    cases e1 : (gi == gk) with
    | true =>
      cases e2 : decide ((i : Int) < 6) with
      | true => exact .inl ⟨rfl, rfl, by rw [o1, e1, e2]; rfl⟩
      | false => exact .inr (.inl ⟨rfl, rfl, by rw [o1, e1, e2]; rfl⟩)
    | false => exact .inr (.inr ⟨rfl, by rw [o1, e1]; rfl⟩)
  clear o1
  rcases hq with ⟨e1, e2, ot⟩ | ⟨e1, e2, ot⟩ | ⟨e1, ot⟩
  all_goals
    have OT := Lib.hid ot
    clear ot
    go_enter Tryd.func14, Tryd.ntmps14
    go_wp2_with fail
    rw [HW.out]
    refine (hL1 _).mono ?_
    rintro e w1 ⟨rfl, hw1⟩
    obtain rfl := hw1.symm
    go_wp2_with fail
    refine (hL2 _).mono ?_
    rintro e w1 ⟨rfl, hw1⟩
    obtain rfl := hw1.symm
    go_wp2_with fail
    go_quiet (fail)
    have hS2 : Since2 w W (W.drewN nq) := ⟨hS.1.drewN nq, below_q hS.2 nq⟩
    obtain ⟨V, hV⟩ : ∃ V, V = W.drewN nq := ⟨_, rfl⟩
    rw [← hV] at hS2 ⊢
    clear hV
    clear e1 d1 d2
    have hS3 := keep2 (a1 := ⟨w.heap.size, i, none⟩) (a2 := ⟨w.heap.size, k, none⟩) hS2 HK
    go_wp2_with fail
    go_region_held3 (fun w2 => Since2 w W w2 ∧ w2.cell? ⟨w.heap.size, i, none⟩ = some (.string ⟨a.toArray⟩) ∧ w2.cell? ⟨w.heap.size, k, none⟩ = some (.string ⟨c.toArray⟩)) (first | exact keep2 (by first | assumption | exact And.left (by assumption)) HK | exact keep2 (Since2.drew (by first | assumption | exact And.left (by assumption))) HK | exact keep2 (Since2.alloc (by first | assumption | exact And.left (by assumption)) _) HK | exact keep2 (Since2.drew (Since2.alloc (by first | assumption | exact And.left (by assumption)) _)) HK) (first
      | (go_at_call 35; refine (Since2.two a c _ _ (by omega) (by omega) OT.out (by first | assumption | exact And.left (by assumption)) (by first | exact sl_two _ _ _ | exact sl_drew (sl_two _ _ _))).mono ?_; rintro e w3 ⟨rfl, hS3⟩)
      | (go_at_call 35; refine (Since2.none (by first | assumption | exact And.left (by assumption)) c (by omega)).mono ?_; rintro e w3 ⟨rfl, hS3⟩)
      | (go_at_call 32; refine (Since2.awake (by first | assumption | exact And.left (by assumption))).mono ?_; rintro e w3 ⟨rfl, hS3⟩))
    go_wp2_with fail
    go_ret
    refine ⟨rfl, At.below (Since2.at' (W := W) ?_)⟩
    first | assumption | exact And.left (by assumption)
end Go.Proofs.YtjnmgmepolpcdaaDoor
