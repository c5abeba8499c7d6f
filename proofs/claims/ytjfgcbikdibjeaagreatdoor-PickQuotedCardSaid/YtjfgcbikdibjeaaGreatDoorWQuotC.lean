/- The walks of package quot: an escape. -/
import Derived.Test.YtjfgcbikdibjeaaGreatDoorWQuotB
import Derived.Test.YtjfgcbikdibjeaaGreatDoorWEscaRead
namespace Go.Proofs.YtjfgcbikdibjeaaGreatDoor
open Go.RowKit U Go.Proofs

theorem qpre2 (m : List UInt8) (a b : UInt8) : Lib.hasPrefix m [a, b] = decide (2 ≤ m.length ∧ byt m 0 = a.toNat ∧ byt m 1 = b.toNat) := by
  unfold Lib.hasPrefix
  rcases m with _ | ⟨x, _ | ⟨y, t⟩⟩
  · rfl
  · simp [List.isPrefixOf]
  · have hx : ∀ c x : UInt8, (c == x) = decide (x.toNat = c.toNat) := by
      intro c x
      by_cases h : c = x
      · subst h; simp
      · have : x.toNat ≠ c.toNat := fun e => h (UInt8.toNat.inj e).symm
        simp [h, this]
    simp only [List.isPrefixOf, hx, byt_succ, byt_zero, List.length_cons]
    rw [Bool.eq_iff_iff]
    simp
theorem qpre2_at (l : List UInt8) (p : Nat) (a b : UInt8) (hb : b ≠ 0) (h : byt l p = a.toNat) : Lib.hasPrefix (l.drop p) [a, b] = decide (byt l (p + 1) = b.toNat) := by
  rw [qpre2, byt_drop, byt_drop, List.length_drop, Nat.add_zero]
  by_cases h1 : byt l (p + 1) = b.toNat
  · have hlt : p + 1 < l.length := by
      rcases Nat.lt_or_ge (p + 1) l.length with h2 | h2
      · exact h2
      · rw [byt_ge l _ h2] at h1
        exact absurd (UInt8.toNat_inj.1 (show b.toNat = (0 : UInt8).toNat from h1.symm)) hb
    rw [decide_eq_true h1, decide_eq_true ⟨by omega, h, h1⟩]
  · rw [decide_eq_false h1, decide_eq_false (fun h2 => h1 h2.2.2)]
section
variable {W0 w : World} {g : Nat} {l : List UInt8} {p : Nat} {n : Int} {q : Nat} {es : List (QR × Value)} {c : QR} {v : Value} {B rb cap : Nat}
set_option maxRecDepth 100000 in
set_option maxHeartbeats 4000000 in
theorem escape_tie (h : QS W0 w g l p n q es c v B rb cap) (hs : l.length ≤ 1000000) (hp : p < l.length) (h92 : byt l p = 92) (h10 : byt l (p + 1) = 10) :
    Calls Tryz.prog 122 #[.pointer (some ⟨g, 0, none⟩)] w fun e w' => e = .returned (.int .i64 0) ∧ QS W0 w' g l (p + 1) n q es (c.1, c.2.1, true) v B rb cap := by
  have hP := fun w => Tryz.strings_HasPrefix ⟨(l.drop p).toArray⟩ ⟨#[92, 10]⟩ w
  have hP : ∀ w, Calls Tryz.prog 43 #[.string ⟨(l.drop p).toArray⟩, .string ⟨#[92, 10]⟩] w fun e w' => e = .returned (.bool true) ∧ w = w' := fun w => (hP w).mono (by
    rintro e w' ⟨rfl, rfl⟩
    refine ⟨ret_bool ?_, rfl⟩
    show Lib.hasPrefix (l.drop p) [92, 10] = true
    rw [qpre2_at l p 92 10 (by decide) h92]
    exact decide_eq_true h10)
  have hct := h.count
  have H := Lib.hid h
  clear h h92 h10
  go_enter Tryz.func122, Tryz.ntmps122
  go_upto_region 1 with fail
  go_cut [16] (fun s wx => s = .bool true ∧ QS W0 wx g l p n q es c v B rb cap)
  case first =>
    obtain ⟨c0, c1, c2, c3, c4⟩ := H.out.st.cells
    go_quiet ((go_at_call 43; exact qs (hP _)))
    go_wp2_with fail
    go_meet
    exact ⟨rfl, H.out.drewN _⟩
  case rest =>
    obtain ⟨rfl, h1⟩ := hcut
    have H1 := Lib.hid h1
    clear h1 H
    go_wp2_with fail
    refine (last_c H1.out.st (by omega)).mono ?_
    rintro e w1 ⟨rfl, m1, rfl⟩
    have H2 := Lib.hid (H1.out.drewN m1)
    clear H1
    obtain ⟨r0, r1, r2⟩ := H2.out.rcells
    have f2 := H2.out.st.rfree (es.length * 3 + 2)
    have H3 := Lib.hid H2.out.tie
    obtain ⟨c0, c1, c2, c3, c4⟩ := H3.out.st.cells
    have f1 := H3.out.st.full.free 1
    have gw : IntKind.i64.wrap ((p : Int) + 1) = (p : Int) + 1 := IntWalk.i64_in _ (by omega)
    go_wp2_with fail
    go_ret
    refine ⟨rfl, ?_⟩
    have := H3.out.putAt (p + 1) (by omega)
    rw [show ((p + 1 : Nat) : Int) = (p : Int) + 1 by omega] at this
    exact this
set_option maxRecDepth 100000 in
set_option maxHeartbeats 4000000 in
theorem escape_esc (h : QS W0 w g l p n q es c v B rb cap) (hs : l.length ≤ 1000000) (hp : p < l.length) (h92 : byt l p = 92) (h10 : byt l (p + 1) ≠ 10) {r : Int} {t : Nat} (he : escM l p = (r, (t : Int), 0)) (htp : p + 2 ≤ t) (_htl : t ≤ l.length) :
    Calls Tryz.prog 122 #[.pointer (some ⟨g, 0, none⟩)] w fun e w' => e = .returned (.int .i64 0) ∧ ∃ v', QS W0 w' g l t n q es (c.1 ++ encR r, (c.1 ++ encR r).length, c.2.2) v' B rb cap := by
  have hP := fun w => Tryz.strings_HasPrefix ⟨(l.drop p).toArray⟩ ⟨#[92, 10]⟩ w
  have hP : ∀ w, Calls Tryz.prog 43 #[.string ⟨(l.drop p).toArray⟩, .string ⟨#[92, 10]⟩] w fun e w' => e = .returned (.bool false) ∧ w = w' := fun w => (hP w).mono (by
    rintro e w' ⟨rfl, rfl⟩
    refine ⟨ret_bool ?_, rfl⟩
    show Lib.hasPrefix (l.drop p) [92, 10] = false
    rw [qpre2_at l p 92 10 (by decide) h92]
    exact decide_eq_false h10)
  have hE := fun w => escRead_c l p w (by omega) (by omega) (by omega)
  have hE : ∀ w, Calls Tryz.prog 160 #[.string ⟨l.toArray⟩, .int .i64 p] w fun e w' => e = .returned (.tuple #[.int .i32 r, .int .i64 t, .int .i64 0]) ∧ w = w' := fun w => (hE w).mono (by
    rintro e w' ⟨rfl, rfl⟩
    rw [he]
    exact ⟨rfl, rfl⟩)
  have hct := h.count
  have hsz := h.size
  have hel : (encR r).length ≤ 4 := encR_le r
  obtain ⟨i0, hi, hz0, hz1, hz2⟩ := info_parts Tryz.infoByte
  obtain ⟨tx, fx, td⟩ := c
  dsimp only at hsz
  have H := Lib.hid h
  obtain ⟨m, hm⟩ : ∃ m, encR r = m := ⟨_, rfl⟩
  have hen : Utf8.encode r = ⟨m.toArray⟩ := by rw [encode_mk, ← hm]; rfl
  rw [hm] at hel ⊢
  clear h h92 h10 he hm
  go_enter Tryz.func122, Tryz.ntmps122
  go_upto_region 1 with fail
  go_cut [16] (fun s wx => s = .bool false ∧ QS W0 wx g l p n q es (tx, fx, td) v B rb cap)
  case first =>
    obtain ⟨c0, c1, c2, c3, c4⟩ := H.out.st.cells
    go_quiet ((go_at_call 43; exact qs (hP _)))
    go_wp2_with fail
    go_meet
    exact ⟨rfl, H.out.drewN _⟩
  case rest =>
    obtain ⟨rfl, h1⟩ := hcut
    have H1 := Lib.hid h1
    clear h1 H
    go_upto_region 5 with fail
    go_cut [3, 4, 5] (fun s3 s4 s5 wx => s3 = .int .i32 r ∧ s4 = .int .i64 t ∧ s5 = .int .i64 0 ∧ QS W0 wx g l p n q es (tx, fx, td) v B rb cap)
    case first =>
      obtain ⟨c0, c1, c2, c3, c4⟩ := H1.out.st.cells
      go_quiet ((go_at_call 160; exact qs (hE _)))
      go_wp2_with fail
      go_meet
      exact ⟨rfl, rfl, rfl, H1.out.drewN _⟩
    case rest =>
      obtain ⟨rfl, rfl, rfl, h1⟩ := hcut
      have H2 := Lib.hid h1
      clear h1 H1 hP hE
      go_wp2_with fail
      refine (last_c H2.out.st (by omega)).mono ?_
      rintro e w1 ⟨rfl, m1, rfl⟩
      have H3 := Lib.hid (H2.out.drewN m1)
      clear H2
      generalize World.drewN _ m1 = W1 at *
      obtain ⟨r0, r1, r2⟩ := H3.out.rcells
      have ht := H3.out.text
      dsimp only at ht
      have hn1 : tx.length + (⟨m.toArray⟩ : ByteArray).size ≤ maxLen := by unfold maxLen; rw [size_mk]; omega
      have hn2 : tx.length + (⟨m.toArray⟩ : ByteArray).size ≤ 140737488355328 := by rw [size_mk]; omega
      go_upto_region 9 with fail
      go_cut [] (fun wx => ∃ a5 c5, QS0 W0 wx g l p n q es [.slice a5 (tx ++ m).length c5, .int .i64 fx, .bool td] B rb cap ∧ wx.ownsRow B 5 1 (.slice a5 (tx ++ m).length c5) (tx ++ m).length (Lib.byteCells (tx ++ m)))
      case first =>
        go_wp2_with (at_builtin; go_loud (refine Lib.wpList_append_own_string _ rfl _ _ 76 9 rfl B 5 i0 Tryz.underlying76 Tryz.underlying9 hi hz0 hz1 hz2 v tx.length (Lib.byteCells tx) rfl ht ⟨m.toArray⟩ rfl hn1 hn2 H3.out.st.b1 ?_); intro v5 w5 hown5 hgrow5 _; obtain ⟨a5, c5, rfl⟩ := own_shape hown5; have H5 := Lib.hid (H3.out.st.grown ht hgrow5); have f50 := H5.out.rfree (es.length * 3); have r50 : w5.cell? ⟨rb, es.length * 3, none⟩ = some v := H5.out.rcell 0 (by omega))
        go_meet
        have hl : (tx ++ m).length = tx.length + (⟨m.toArray⟩ : ByteArray).size := by rw [List.length_append, size_mk]
        refine ⟨a5, c5, ?_, ?_⟩
        · rw [hl]; exact H5.out.putRow 0 _
        · rw [hl, byteCells_append]
          exact own_row_put H5.out hown5 _ _
      case rest =>
        obtain ⟨a5, c5, h4, h5⟩ := hcut
        have H4 := Lib.hid h4
        have H5 := Lib.hid h5
        clear h4 h5 H3 r0 r1 r2 ht hn1 hn2
        have htl2 : (tx ++ m).length ≤ 3000000 := by rw [List.length_append]; omega
        have hfin : totQ es + (tx ++ m).length ≤ 2 * t := by rw [List.length_append]; omega
        generalize htm : tx ++ m = tm at *
        have HTM := Lib.hid htm
        clear htm
        have r0 : wc.cell? ⟨rb, es.length * 3, none⟩ = some (.slice a5 tm.length c5) := H4.out.rcell 0 (by omega)
        have r1 : wc.cell? ⟨rb, es.length * 3 + 1, none⟩ = some (.int .i64 fx) := H4.out.rcell 1 (by omega)
        have f51 := H4.out.rfree (es.length * 3 + 1)
        have H6 := Lib.hid (H4.out.putRow 1 (.int .i64 tm.length))
        have T6 := Lib.hid (own_row_put H4.out H5.out (es.length * 3 + 1) (.int .i64 tm.length))
        obtain ⟨c0, c1, c2, c3, c4⟩ := H6.out.cells
        have f1 := H6.out.full.free 1
        go_wp2_with fail
        go_ret
        refine ⟨rfl, ?_⟩
        rw [HTM.out]
        exact ⟨_, H6.out.putAt t, own_far_put H6.out T6.out 1 _, Nat.le_refl _, hfin, by omega⟩
set_option maxRecDepth 100000 in
set_option maxHeartbeats 4000000 in
theorem escape_bad (h : QS W0 w g l p n q es c v B rb cap) (hs : l.length ≤ 1000000) (hp : p < l.length) (h92 : byt l p = 92) (h10 : byt l (p + 1) ≠ 10) (he : (escM l p).2.2 = 5) :
    Calls Tryz.prog 122 #[.pointer (some ⟨g, 0, none⟩)] w fun e w' => e = .returned (.int .i64 5) ∧ QS W0 w' g l p n q es c v B rb cap := by
  have hP := fun w => Tryz.strings_HasPrefix ⟨(l.drop p).toArray⟩ ⟨#[92, 10]⟩ w
  have hP : ∀ w, Calls Tryz.prog 43 #[.string ⟨(l.drop p).toArray⟩, .string ⟨#[92, 10]⟩] w fun e w' => e = .returned (.bool false) ∧ w = w' := fun w => (hP w).mono (by
    rintro e w' ⟨rfl, rfl⟩
    refine ⟨ret_bool ?_, rfl⟩
    show Lib.hasPrefix (l.drop p) [92, 10] = false
    rw [qpre2_at l p 92 10 (by decide) h92]
    exact decide_eq_false h10)
  have hE := fun w => escRead_c l p w (by omega) (by omega) (by omega)
  obtain ⟨r, t, hrt⟩ : ∃ r t, escM l p = (r, t, 5) := ⟨_, _, Prod.ext rfl (Prod.ext rfl he)⟩
  have hE : ∀ w, Calls Tryz.prog 160 #[.string ⟨l.toArray⟩, .int .i64 p] w fun e w' => e = .returned (.tuple #[.int .i32 r, .int .i64 t, .int .i64 5]) ∧ w = w' := fun w => (hE w).mono (by
    rintro e w' ⟨rfl, rfl⟩
    rw [hrt]
    exact ⟨rfl, rfl⟩)
  have H := Lib.hid h
  clear h h92 h10 he hrt
  go_enter Tryz.func122, Tryz.ntmps122
  go_upto_region 1 with fail
  go_cut [16] (fun s wx => s = .bool false ∧ QS W0 wx g l p n q es c v B rb cap)
  case first =>
    obtain ⟨c0, c1, c2, c3, c4⟩ := H.out.st.cells
    go_quiet ((go_at_call 43; exact qs (hP _)))
    go_wp2_with fail
    go_meet
    exact ⟨rfl, H.out.drewN _⟩
  case rest =>
    obtain ⟨rfl, h1⟩ := hcut
    have H1 := Lib.hid h1
    clear h1 H
    go_upto_region 5 with fail
    go_cut [5] (fun s5 wx => s5 = .int .i64 5 ∧ QS W0 wx g l p n q es c v B rb cap)
    case first =>
      obtain ⟨c0, c1, c2, c3, c4⟩ := H1.out.st.cells
      go_quiet ((go_at_call 160; exact qs (hE _)))
      go_wp2_with fail
      go_meet
      exact ⟨rfl, H1.out.drewN _⟩
    case rest =>
      obtain ⟨rfl, h1⟩ := hcut
      go_wp2_with fail
      go_ret
      exact ⟨rfl, h1⟩
end
end Go.Proofs.YtjfgcbikdibjeaaGreatDoor
