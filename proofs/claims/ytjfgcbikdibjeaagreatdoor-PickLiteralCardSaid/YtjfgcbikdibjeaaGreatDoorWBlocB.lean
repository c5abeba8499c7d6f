/- The walks of package bloc: where a scalar's rows end, and how far they are in. -/
import Derived.Test.YtjfgcbikdibjeaaGreatDoorWBlocA
import Derived.Test.YtjfgcbikdibjeaaGreatDoorFrame
namespace Go.Proofs.YtjfgcbikdibjeaaGreatDoor
open Go.RowKit U Go.Proofs

attribute [local go_sem] ite_min' ite_max'
/-- What a body holds. -/
abbrev bodyCells (l : List UInt8) (b tt wd : Nat) : List Value := [.string ⟨l.toArray⟩, .int .i64 b, .int .i64 tt, .int .i64 wd]
def BF (W0 w : World) (g : Nat) (l : List UInt8) (b tt wd : Nat) : Prop := W0.grownBy w (some g) ∧ Full w g 134 (bodyCells l b tt wd)
section
variable {W0 w w' : World} {g : Nat} {l : List UInt8} {b tt wd : Nat}
theorem BF.cells (h : BF W0 w g l b tt wd) : w.cell? ⟨g, 0, none⟩ = some (.string ⟨l.toArray⟩) ∧ w.cell? ⟨g, 1, none⟩ = some (.int .i64 b) ∧ w.cell? ⟨g, 2, none⟩ = some (.int .i64 tt) ∧ w.cell? ⟨g, 3, none⟩ = some (.int .i64 wd) :=
  ⟨h.2.cell 0, h.2.cell 1, h.2.cell 2, h.2.cell 3⟩
theorem BF.drewN (h : BF W0 w g l b tt wd) (n : Nat) : BF W0 (w.drewN n) g l b tt wd := ⟨only_drewN h.1 n, h.2.drewN n⟩
theorem BF.setTo (h : BF W0 w g l b tt wd) (k : Nat) : BF W0 (w.setCell ⟨g, 2, none⟩ (.int .i64 k)) g l b k wd := ⟨only_put h.1 2 _, h.2.put 2 _⟩
theorem BF.setW (h : BF W0 w g l b tt wd) (k : Nat) : BF W0 (w.setCell ⟨g, 3, none⟩ (.int .i64 k)) g l b tt k := ⟨only_put h.1 3 _, h.2.put 3 _⟩
end
set_option maxRecDepth 100000 in
set_option maxHeartbeats 4000000 in
theorem blend_c (g : Nat) (l : List UInt8) (b tt wd : Nat) (w : World) (h : BF w w g l b tt wd) (hs : l.length ≤ 1073741824) (hb : b ≤ l.length) (ht : tt ≤ l.length) (he : endM l wd b ≤ tt) (_hwd : wd ≤ 2147483647) :
    Calls Tryz.prog 117 #[.pointer (some ⟨g, 0, none⟩)] w fun e w' => e = .returned (.tuple #[]) ∧ BF w w' g l b (endM l wd b) wd := by
  obtain ⟨c0, c1, c2, c3⟩ := h.cells
  have H := Lib.hid h
  clear h
  go_enter Tryz.func117, Tryz.ntmps117
  go_wp2_with fail
  clear c0 c1 c2 c3
  go_loopg [2] (l.length - b) (fun gk x wr => ∃ p : Nat, p ≤ l.length ∧ x = .int .i64 p ∧ gk = l.length - p ∧ Hid (BF w wr g l b tt wd) ∧ Hid (endM l wd p = endM l wd b))
  case atStart => exact ⟨b, hb, rfl, rfl, H, Lib.hid rfl⟩
  case round =>
    obtain ⟨p, hp, rfl, hgk, H, HE⟩ := hrel
    obtain ⟨c0, c1, c2, c3⟩ := H.out.cells
    have hep := (end_is l wd _ p (Nat.le_refl _) hp).1
    rw [HE.out] at hep
    have hM := fun w => marks_c l p w hs hp
    have hRo := fun w => blrow_c l p w hs hp
    have hO := fun w => other_c (rowM l p) w
    have hI := fun w => in_n l p w hs hp
    rw [other_row] at hO
    generalize rowM l p = rr at *
    by_cases hgo : p < l.length ∧ okB l wd p = true
    · have hlt : p < tt := by
        have h1 := end_go hgo.1 hgo.2
        have h2 := (end_is l wd _ (nextM l p) (Nat.le_refl _) (next_le l p)).1
        have h3 := next_gt hgo.1
        rw [HE.out] at h1
        omega
      have hng := next_gt hgo.1
      have hnl := next_le l p
      have hN := fun w => blnext_c l p w hs hp
      have HR : Hid (endM l wd (nextM l p) = endM l wd b) := Lib.hid (by rw [← HE.out, end_go hgo.1 hgo.2])
      generalize nextM l p = q at *
      have hok := hgo.2
      unfold okB at hok
      cases hm : markB l p with
      | true => rw [hm] at hok; cases hok
      | false =>
        rw [hm] at hM hok
        go_upto_region 1 with fail
        go_cut [44] (fun s wx => s = .bool true ∧ BF w wx g l b tt wd)
        case first =>
          cases hbl : blankB l p with
          | true =>
            rw [hbl] at hO
            clear hok hm hbl hgo HE HR hep
            go_quiet ((first | (go_at_call 154; exact qs (hM _)) | (go_at_call 156; exact qs (hRo _)) | (go_at_call 157; exact qs (hO _)) | (go_at_call 113; exact qs (hI _))))
            go_wp2_with fail
            go_meet
            exact ⟨rfl, H.out.drewN _⟩
          | false =>
            rw [hbl] at hO hok
            have hin : wd ≤ inM l p := by simpa using hok
            clear hok hm hbl hgo HE HR hep
            generalize inM l p = i at *
            go_quiet ((first | (go_at_call 154; exact qs (hM _)) | (go_at_call 156; exact qs (hRo _)) | (go_at_call 157; exact qs (hO _)) | (go_at_call 113; exact qs (hI _))))
            go_wp2_with fail
            go_meet
            exact ⟨rfl, H.out.drewN _⟩
        case rest =>
          obtain ⟨rfl, h1⟩ := hcut
          clear c0 c1 c2 c3 H hM hRo hO hI hok hm hgo
          obtain ⟨c0, c1, c2, c3⟩ := h1.cells
          have H := Lib.hid h1
          clear h1
          go_wp2_with fail
          refine (hN _).mono ?_
          rintro e w2 ⟨rfl, rfl⟩
          go_wp2_with fail
          go_roundg (l.length - q)
          case measure => omega
          case rel => exact ⟨q, hnl, rfl, rfl, H, HR⟩
    · have hE2 : endM l wd b = p := by rw [← HE.out, end_stop hgo]
      have HP := Lib.hid hE2
      clear HE hep hE2 he
      go_upto_region 1 with fail
      go_cut [44] (fun s wx => s = .bool false ∧ BF w wx g l b tt wd)
      case first =>
        by_cases hlt : p < tt
        · have hok : okB l wd p = false := by
            cases ho : okB l wd p with
            | false => rfl
            | true => exact absurd ⟨by omega, ho⟩ hgo
          unfold okB at hok
          clear hgo HP
          cases hm : markB l p with
          | true =>
            rw [hm] at hM
            clear hok hm
            go_quiet ((first | (go_at_call 154; exact qs (hM _)) | (go_at_call 156; exact qs (hRo _)) | (go_at_call 157; exact qs (hO _)) | (go_at_call 113; exact qs (hI _))))
            go_wp2_with fail
            go_meet
            exact ⟨rfl, H.out.drewN _⟩
          | false =>
            rw [hm] at hM hok
            cases hbl : blankB l p with
            | true => rw [hbl] at hok; cases hok
            | false =>
              rw [hbl] at hO hok
              have hin : ¬ wd ≤ inM l p := by simpa using hok
              clear hok hm hbl
              generalize inM l p = i at *
              go_quiet ((first | (go_at_call 154; exact qs (hM _)) | (go_at_call 156; exact qs (hRo _)) | (go_at_call 157; exact qs (hO _)) | (go_at_call 113; exact qs (hI _))))
              go_wp2_with fail
              go_meet
              exact ⟨rfl, H.out.drewN _⟩
        · clear hgo HP
          go_quiet ((first | (go_at_call 154; exact qs (hM _)) | (go_at_call 156; exact qs (hRo _)) | (go_at_call 157; exact qs (hO _)) | (go_at_call 113; exact qs (hI _))))
          go_wp2_with fail
          go_meet
          exact ⟨rfl, H.out.drewN _⟩
      case rest =>
        obtain ⟨rfl, h1⟩ := hcut
        clear c0 c1 c2 c3 H hM hRo hO hI hgo
        obtain ⟨c0, c1, c2, c3⟩ := h1.cells
        have f2 := h1.2.free 2
        have hst := h1.setTo p
        have H := Lib.hid hst
        clear h1 hst
        go_wp2_with fail
        go_end0
        exact ⟨rfl, by rw [HP.out]; exact H.out⟩
end Go.Proofs.YtjfgcbikdibjeaaGreatDoor
