/- The walk of bosketlaw8.CoreBases. -/
import Derived.Test.YtjnmgmepolpcdaaDoorWCoreLaw
namespace Go.Proofs.YtjnmgmepolpcdaaDoor
open Go.RowKit U Go.Proofs

theorem oct_at : ∀ j, j < 8 → ((([48, 49, 50, 51, 52, 53, 54, 55] : List UInt8).drop j).take 1).length = 1 ∧ ((([48, 49, 50, 51, 52, 53, 54, 55] : List UInt8).drop j).take 1).all oct8 = true := by decide
theorem hex_at : ∀ j, j < 22 → ((([48, 49, 50, 51, 52, 53, 54, 55, 56, 57, 97, 98, 99, 100, 101, 102, 65, 66, 67, 68, 69, 70] : List UInt8).drop j).take 1).length = 1 ∧ ((([48, 49, 50, 51, 52, 53, 54, 55, 56, 57, 97, 98, 99, 100, 101, 102, 65, 66, 67, 68, 69, 70] : List UInt8).drop j).take 1).all hex16 = true := by decide
theorem low_any (x m : Int) (w : World) (h0 : 0 < m) (h1 : m ≤ 2147483647) :
    Calls Tryd.prog 16 #[.int .i64 x, .int .i64 m] w fun e w' => e = .returned (.int .i64 (low x m.toNat)) ∧ w' = w := by
  obtain ⟨n, rfl⟩ := Int.eq_ofNat_of_zero_le (show 0 ≤ m by omega)
  exact low_j x n _ w (by omega) (by omega) rfl
/-- So many digits of a kind. -/
def Digs (p : UInt8 → Bool) (k : Nat) (l : List UInt8) : Prop := l.length = k ∧ l.all p = true
theorem Digs.snoc {p : UInt8 → Bool} {k : Nat} {l u : List UInt8} (h : Digs p k l) (hu : u.length = 1 ∧ u.all p = true) : Digs p (k + 1) (l ++ u) := by
  refine ⟨by rw [List.length_append, h.1, hu.1], ?_⟩
  rw [List.all_append, h.2, hu.2]; rfl
theorem Digs.all {p : UInt8 → Bool} {k : Nat} {l : List UInt8} (h : Digs p k l) (hk : 0 < k) : allOf p l = true := by
  unfold allOf
  rw [h.2]
  cases l with
  | nil => have := h.1; simp at this; omega
  | cons b t => rfl
set_option maxRecDepth 100000 in
set_option maxHeartbeats 8000000 in
theorem coreBases_c (xs : List Int) (v : Value) (at0 : Int) (w : World) (hE : Env w) (hsl : Sl w v (xs.map fun x : Int => Value.int .i64 x)) (_hwf : ∀ x ∈ xs, (Lit.int .i64 x).wf = true) (_hs : xs.length ≤ 9223372036854775807) (_ha0 : -9223372036854775808 ≤ at0) (_ha1 : at0 ≤ 9223372036854775807) :
    Calls Tryd.prog 5 #[v, .int .i64 at0] w fun e w' => e = .returned (.bool true) ∧ Below w.heap.size w w' := by
  have hA := At.refl hE
  obtain ⟨a, c, rfl, hcells⟩ := Sl.ints (k := .i64) hsl
  have HC := Lib.hid hcells
  clear hcells hsl
  by_cases hl : xs = []
  · subst hl
    rw [show (([] : List Int).length) = 0 from rfl]
    clear HC
    go_enter Tryd.func5, Tryd.ntmps5
    go_wp2_with (go_at_call 15; refine (awake8_c _ hA.env).mono ?_; rintro e w1 ⟨rfl, hb⟩; have hA := hA.step hb; clear hb)
    go_ret
    exact ⟨rfl, hA.below⟩
  by_cases hk : 10 < xs.length
  · go_enter Tryd.func5, Tryd.ntmps5
    go_wp2_with (go_at_call 15; refine (awake8_c _ hA.env).mono ?_; rintro e w1 ⟨rfl, hb⟩; have hA := hA.step hb; clear hb)
    go_ret
    exact ⟨rfl, hA.below⟩
  have hl1 : 1 ≤ xs.length := List.length_pos_iff.2 hl
  have hk1 : xs.length ≤ 10 := by omega
  clear hl hk
  go_enter Tryd.func5, Tryd.ntmps5
  go_wp2_with fail
  go_loopw [5, 6, 7, 8, 9] (fun s t i _ _ wr => ∃ (k : Nat) (o x : List UInt8), k ≤ xs.length ∧ s = .string ⟨o.toArray⟩ ∧ t = .string ⟨x.toArray⟩ ∧ Hid (Digs oct8 k o) ∧ Hid (Digs hex16 k x) ∧ o.length ≤ k ∧ x.length ≤ k ∧ i = .int .i64 k ∧ At w wr) (fun _ _ i _ _ _ => xs.length - (intOf i).toNat)
  case atStart => exact ⟨0, [], [], Nat.zero_le _, rfl, rfl, Lib.hid ⟨rfl, rfl⟩, Lib.hid ⟨rfl, rfl⟩, Nat.le_refl _, Nat.le_refl _, rfl, hA⟩
  case round =>
    obtain ⟨k, o, t, hk, rfl, rfl, hO, hT, hol, htl, rfl, hA⟩ := hrel
    by_cases hlt : k < xs.length
    · obtain ⟨b, off, rfl, hb, hck0⟩ := HC.out k hlt
      have hck : wr.cell? ⟨b, off + k, none⟩ = some (.int .i64 (xs[k]'hlt)) := (hA.below.cell (p := ⟨b, off + k, none⟩) hb).trans hck0
      generalize hX : (xs[k]'hlt) = x at *
      clear hX hck0
      have hj := low_lt x 8 (by omega)
      have hi := low_lt x 22 (by omega)
      have HOJ := Lib.hid (oct_at _ hj)
      have HXI := Lib.hid (hex_at _ hi)
      go_wp2_with fail
      go_quiet ((go_at_call 16; exact Calls.quiet_of_same (low_any x _ _ (by omega) (by omega))))
      have hA := hA.drewN nq
      go_wp2_with fail
      exact ⟨⟨k + 1, _, _, by omega, rfl, rfl, Lib.hid (hO.out.snoc HOJ.out), Lib.hid (hT.out.snoc HXI.out), by rw [List.length_append, HOJ.out.1]; omega, by rw [List.length_append, HXI.out.1]; omega, by go_num, hA⟩, by simp [intOf]; omega⟩
    · obtain rfl : k = xs.length := by omega
      have hla : allOf oct8 o = true := hO.out.all (by omega)
      have hlx : allOf hex16 t = true := hT.out.all (by omega)
      have HO := Lib.hid (core_oct hla)
      have HX := Lib.hid (core_hex hlx)
      have HMO := Lib.hid (core_signed (g := 45) (c := 111) (by decide) (by decide) o)
      have HPX := Lib.hid (core_signed (g := 43) (c := 120) (by decide) (by decide) t)
      have HLO := Lib.hid (show coreR (48 :: 111 :: laidAt o at0 [56]) = wStr by unfold laidAt; rw [List.append_assoc]; exact core_laid_oct _ _)
      have HLX := Lib.hid (show coreR (48 :: 120 :: laidAt t at0 [103]) = wStr by unfold laidAt; rw [List.append_assoc]; exact core_laid_hex _ _)
      have HBG := Lib.hid (core_big t)
      have HE := Lib.hid (show coreR [48, 111] = wStr by decide)
      have hl1 : (laidAt o at0 [56]).length ≤ o.length + 1 := by unfold laidAt; simp; omega
      have hl2 : (laidAt t at0 [103]).length ≤ t.length + 1 := by unfold laidAt; simp; omega
      have hLO := fun W hA => laid_c o [56] at0 w W hA (by omega) (by decide)
      have hLX := fun W hA => laid_c t [103] at0 w W hA (by omega) (by decide)
      clear hla hlx hO hT
      generalize laidAt o at0 [56] = lo at *
      generalize laidAt t at0 [103] = lx at *
      go_wp2_with fail
      refine (tag_is _ [105, 110, 116] _ _ hA ?_ ?_).mono ?_
      · first | omega | (simp <;> omega)
      · simpa [wInt, wStr] using HO.out
      rintro e w1 ⟨rfl, hA⟩
      go_wp2_with fail
      refine (coreLong_c [105, 110, 116] _ (by decide)).mono ?_
      rintro e w2 ⟨rfl, rfl⟩
      go_wp2_with fail
      refine (tag_is _ [105, 110, 116] _ _ hA ?_ ?_).mono ?_
      · first | omega | (simp <;> omega)
      · simpa [wInt, wStr] using HX.out
      rintro e w1 ⟨rfl, hA⟩
      go_wp2_with fail
      refine (coreLong_c [105, 110, 116] _ (by decide)).mono ?_
      rintro e w2 ⟨rfl, rfl⟩
      go_wp2_with fail
      refine (tag_is _ [115, 116, 114] _ _ hA ?_ ?_).mono ?_
      · first | omega | (simp <;> omega)
      · simpa [wInt, wStr] using HMO.out
      rintro e w1 ⟨rfl, hA⟩
      go_wp2_with fail
      refine (coreLong_c [115, 116, 114] _ (by decide)).mono ?_
      rintro e w2 ⟨rfl, rfl⟩
      go_wp2_with fail
      refine (tag_is _ [115, 116, 114] _ _ hA ?_ ?_).mono ?_
      · first | omega | (simp <;> omega)
      · simpa [wInt, wStr] using HPX.out
      rintro e w1 ⟨rfl, hA⟩
      go_wp2_with fail
      refine (coreLong_c [115, 116, 114] _ (by decide)).mono ?_
      rintro e w2 ⟨rfl, rfl⟩
      go_wp2_with fail
      refine (hLO _ hA).mono ?_
      rintro e w1 ⟨rfl, hA⟩
      go_wp2_with fail
      refine (tag_is _ [115, 116, 114] _ _ hA ?_ ?_).mono ?_
      · first | omega | (simp <;> omega)
      · simpa [wInt, wStr] using HLO.out
      rintro e w1 ⟨rfl, hA⟩
      go_wp2_with fail
      refine (coreLong_c [115, 116, 114] _ (by decide)).mono ?_
      rintro e w2 ⟨rfl, rfl⟩
      go_wp2_with fail
      refine (hLX _ hA).mono ?_
      rintro e w1 ⟨rfl, hA⟩
      go_wp2_with fail
      refine (tag_is _ [115, 116, 114] _ _ hA ?_ ?_).mono ?_
      · first | omega | (simp <;> omega)
      · simpa [wInt, wStr] using HLX.out
      rintro e w1 ⟨rfl, hA⟩
      go_wp2_with fail
      refine (coreLong_c [115, 116, 114] _ (by decide)).mono ?_
      rintro e w2 ⟨rfl, rfl⟩
      go_wp2_with fail
      refine (tag_is _ [115, 116, 114] _ _ hA ?_ ?_).mono ?_
      · first | omega | (simp <;> omega)
      · simpa [wInt, wStr] using HBG.out
      rintro e w1 ⟨rfl, hA⟩
      go_wp2_with fail
      refine (coreLong_c [115, 116, 114] _ (by decide)).mono ?_
      rintro e w2 ⟨rfl, rfl⟩
      go_wp2_with fail
      refine (tag_is _ [115, 116, 114] _ _ hA ?_ ?_).mono ?_
      · first | omega | (simp <;> omega)
      · simpa [wInt, wStr] using HE.out
      rintro e w1 ⟨rfl, hA⟩
      go_wp2_with fail
      refine (coreLong_c [115, 116, 114] _ (by decide)).mono ?_
      rintro e w2 ⟨rfl, rfl⟩
      go_wp2_with fail
      refine (awake8_c _ hA.env).mono ?_
      rintro e w1 ⟨rfl, hb⟩
      have hA := hA.step hb
      clear hb
      go_wp2_with fail
      go_ret
      exact ⟨rfl, hA.below⟩
end Go.Proofs.YtjnmgmepolpcdaaDoor
