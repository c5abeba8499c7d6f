/- The walks of package esca: how a code point is told. -/
import Derived.Test.YtjfgcbikdibjeaaGreatDoorWFmt16
import Derived.Test.YtjfgcbikdibjeaaGreatDoorWPrintable
import Derived.Test.YtjfgcbikdibjeaaGreatDoorWEscaRead
import Derived.Deep.DeepCutAuto
namespace Go.Proofs.YtjfgcbikdibjeaaGreatDoor
open Go.RowKit U Go.Proofs

theorem let_cases (r : Int) : r = 34 ∨ r = 92 ∨ r = 0 ∨ r = 27 ∨ r = 7 ∨ r = 8 ∨ r = 9 ∨ r = 10 ∨ r = 11 ∨ r = 12 ∨ r = 13 ∨ (letM r = [] ∧ r ≠ 34 ∧ r ≠ 92 ∧ r ≠ 0 ∧ r ≠ 27 ∧ (r < 7 ∨ 13 < r)) := by
  unfold letM
  repeat' split
  all_goals first
    | omega
    | (repeat right
       exact ⟨rfl, by omega, by omega, by omega, by omega, by omega⟩)
set_option maxRecDepth 100000 in
set_option maxHeartbeats 4000000 in
theorem letter_c (r : Int) (w : World) : Calls Tryz.prog 110 #[.int .i32 r] w fun e w' => e = .returned (.string ⟨(letM r).toArray⟩) ∧ w = w' := by
  rcases let_cases r with rfl | rfl | rfl | rfl | rfl | rfl | rfl | rfl | rfl | rfl | rfl | ⟨h, h1, h2, h3, h4, h5⟩
  case inr.inr.inr.inr.inr.inr.inr.inr.inr.inr.inr =>
    rw [h]
    have g1 : (r == 34) = false := by rw [beq_eq_false_iff_ne]; exact h1
    have g2 : (r == 92) = false := by rw [beq_eq_false_iff_ne]; exact h2
    have g3 : (r == 0) = false := by rw [beq_eq_false_iff_ne]; exact h3
    have g4 : (r == 27) = false := by rw [beq_eq_false_iff_ne]; exact h4
    rcases h5 with h5 | h5
    · clear h h1 h2 h3 h4
      go_enter Tryz.func110, Tryz.ntmps110
      go_wp2_with fail
      go_ret
      exact ⟨rfl, rfl⟩
    · clear h h1 h2 h3 h4
      go_enter Tryz.func110, Tryz.ntmps110
      go_wp2_with fail
      go_ret
      exact ⟨rfl, rfl⟩
  all_goals
    go_enter Tryz.func110, Tryz.ntmps110
    go_wp2_with fail
    go_ret
    exact ⟨rfl, rfl⟩
theorem encode_rune {x : Int} (h0 : 0 ≤ x) (h1 : x ≤ 1114111) (hs : ¬ (55296 ≤ x ∧ x ≤ 57343)) : Utf8.encode x = ⟨(Lib.encodeRune x).toArray⟩ := by
  have hv : Utf8.valid x = true := by
    unfold Utf8.valid
    simp; omega
  obtain ⟨n, rfl⟩ := Int.eq_ofNat_of_zero_le h0
  have ha : ∀ a : Int, ∀ k : Nat, a = (k : Int) → a.toNat.toUInt8 = UInt8.ofNat k := fun a k h => by subst h; rfl
  unfold Utf8.encode
  simp only [hv, if_true, Int.toNat_natCast]
  by_cases h1 : n < 128
  · rw [if_pos h1]
    unfold Lib.encodeRune
    rw [Lib.encodeRuneZ_one (by omega) (by omega)]
    rfl
  rw [if_neg h1]
  by_cases h2 : n < 2048
  · rw [if_pos h2]
    unfold Lib.encodeRune
    rw [Lib.encodeRuneZ_two (by omega) (by omega)]
    simp only [List.map_cons, List.map_nil]
    rw [ha _ (192 + n / 64) (by omega), ha _ (128 + n % 64) (by omega)]
  rw [if_neg h2]
  by_cases h3 : n < 65536
  · rw [if_pos h3]
    unfold Lib.encodeRune
    rw [Lib.encodeRuneZ_three (by omega)]
    simp only [List.map_cons, List.map_nil]
    rw [ha _ (224 + n / 4096) (by omega), ha _ (128 + n / 64 % 64) (by omega), ha _ (128 + n % 64) (by omega)]
  rw [if_neg h3]
  unfold Lib.encodeRune
  rw [Lib.encodeRuneZ_four (by omega) (by omega)]
  simp only [List.map_cons, List.map_nil]
  rw [ha _ (240 + n / 262144) (by omega), ha _ (128 + n / 4096 % 64) (by omega), ha _ (128 + n / 64 % 64) (by omega), ha _ (128 + n % 64) (by omega)]
theorem run_rune {x : Int} (h0 : 0 ≤ x) (h1 : x ≤ 1114111) (hs : ¬ (55296 ≤ x ∧ x ≤ 57343)) (W : World) : (convert 21 9 (.int .i32 x)).run Tryz.prog W = .ok (.string ⟨(Lib.encodeRune x).toArray⟩) W := by
  rw [run_convert_int_string W _ _ _ _ (by rw [Tryz.underlying21]; rfl) Tryz.underlying9, encode_rune h0 h1 hs]
set_option maxRecDepth 100000 in
set_option maxHeartbeats 4000000 in
theorem show_c (r : Int) (w : World) (hT : Tz w) : Calls Tryz.prog 67 #[.int .i32 r] w fun e w' => e = .returned (.string ⟨(showM r).toArray⟩) ∧ Below w.heap.size w w' := by
  have hx := fixr_scalar r
  have hsh : showM r = if letM (fixr r) ≠ [] then letM (fixr r) else if printable (fixr r) then Lib.encodeRune (fixr r) else codedM (fixr r).toNat := rfl
  have hv : (Lib.validRune r = true ∧ fixr r = r) ∨ (Lib.validRune r = false ∧ fixr r = 65533) := by
    unfold Lib.validRune fixr
    by_cases h : (0 ≤ r ∧ r < 55296) ∨ (57343 < r ∧ r ≤ 1114111)
    · left
      refine ⟨?_, if_pos h⟩
      simp; omega
    · right
      refine ⟨?_, if_neg h⟩
      simp; omega
  have hV := fun w => Tryz.utf8_ValidRune r w
  have hcv := run_rune hx.1 hx.2.1 hx.2.2
  generalize Lib.validRune r = vb at *
  obtain ⟨x, hfx⟩ : ∃ x, fixr r = x := ⟨_, rfl⟩
  rw [hfx] at hx hsh hv hcv
  clear hfx
  generalize showM r = S at *
  have HS := Lib.hid hsh
  clear hsh
  have hL := fun w => letter_c x w
  have hP := fun w => printable_c x w
  have hC := fun w h => coded_c x.toNat w (by omega) h
  rw [show ((x.toNat : Nat) : Int) = x by omega] at hC
  go_enter Tryz.func67, Tryz.ntmps67
  go_wp2_with fail
  refine (hV _).mono ?_
  rintro e w1 ⟨rfl, rfl⟩
  go_upto_if 6 with fail
  go_cut [0] (fun s wx => s = .int .i32 x ∧ wx = w1)
  case first =>
    rcases hv with ⟨rfl, h2⟩ | ⟨rfl, h2⟩
    · have H2 := Lib.hid h2
      clear h2 hx
      go_wp2_with fail
      go_meet
      exact ⟨by rw [H2.out], rfl⟩
    · have H2 := Lib.hid h2
      clear h2 hx
      go_wp2_with fail
      go_meet
      exact ⟨by rw [H2.out], rfl⟩
  case rest =>
    obtain ⟨rfl, rfl⟩ := hcut
    clear hv hV
    cases hl : letM x with
    | cons b t =>
      rw [hl] at hL
      have HE : Hid (S = b :: t) := Lib.hid (by rw [HS.out, hl, if_pos (by simp)])
      clear HS hl hP hC hcv
      go_wp2_with fail
      refine (hL _).mono ?_
      rintro e w2 ⟨rfl, rfl⟩
      go_wp2_with fail
      go_ret
      exact ⟨ret_str (by rw [HE.out]), Below.refl _ _⟩
    | nil =>
      rw [hl] at hL
      cases hp : printable x with
      | true =>
        rw [hp] at hP
        have HE : Hid (S = Lib.encodeRune x) := Lib.hid (by rw [HS.out, hl, if_neg (by simp), if_pos hp])
        clear HS hl hp hC
        go_wp2_with fail
        refine (hL _).mono ?_
        rintro e w2 ⟨rfl, rfl⟩
        go_wp2_with fail
        refine (hP _).mono ?_
        rintro e w2 ⟨rfl, rfl⟩
        go_wp2_with fail
        go_ret
        exact ⟨ret_str (by rw [HE.out]), Below.refl _ _⟩
      | false =>
        rw [hp] at hP
        have HE : Hid (S = codedM x.toNat) := Lib.hid (by rw [HS.out, hl, if_neg (by simp), if_neg (by rw [hp]; decide)])
        clear HS hl hp
        generalize codedM x.toNat = cd at *
        go_wp2_with fail
        refine (hL _).mono ?_
        rintro e w2 ⟨rfl, rfl⟩
        go_wp2_with fail
        refine (hP _).mono ?_
        rintro e w2 ⟨rfl, rfl⟩
        go_wp2_with fail
        refine (hC _ hT).mono ?_
        rintro e w2 ⟨rfl, hb⟩
        go_wp2_with fail
        go_ret
        exact ⟨ret_str (by rw [HE.out]), hb⟩
end Go.Proofs.YtjfgcbikdibjeaaGreatDoor
