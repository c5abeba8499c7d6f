/- The walks of the document's answer of 5.2: how a code point is told. -/
import Derived.Test.YtjfgcbikdibjeaaGreatDoorWRefEsca
import Derived.Test.YtjfgcbikdibjeaaGreatDoorWRefPrint
import Derived.Test.YtjfgcbikdibjeaaGreatDoorPAllB
namespace Go.Proofs.YtjfgcbikdibjeaaGreatDoor
open Go.RowKit U Go.Proofs

theorem let_key : ∀ i, i < 9 → letM ((escV.getD i 0 : Nat) : Int) = [92, (escL.getD i 0).toUInt8] := by decide
theorem let_nine {x : Int} (h1 : x ≠ 34) (h2 : x ≠ 92) : (∃ i, i < 9 ∧ ((escV.getD i 0 : Nat) : Int) = x ∧ letM x = [92, (escL.getD i 0).toUInt8]) ∨ ((∀ i, i < 9 → ((escV.getD i 0 : Nat) : Int) ≠ x) ∧ letM x = []) := by
  by_cases h : ∃ i, i < 9 ∧ ((escV.getD i 0 : Nat) : Int) = x
  · obtain ⟨i, hi, rfl⟩ := h
    exact .inl ⟨i, hi, rfl, let_key i hi⟩
  · have hn : ∀ i, i < 9 → ((escV.getD i 0 : Nat) : Int) ≠ x := fun i hi he => h ⟨i, hi, he⟩
    refine .inr ⟨hn, ?_⟩
    unfold letM
    rw [if_neg h1, if_neg h2, if_neg (fun e => hn 0 (by decide) (by rw [e]; rfl)), if_neg (fun e => hn 8 (by decide) (by rw [e]; rfl)), if_neg (fun e => hn 1 (by decide) (by rw [e]; rfl)), if_neg (fun e => hn 2 (by decide) (by rw [e]; rfl)), if_neg (fun e => hn 3 (by decide) (by rw [e]; rfl)), if_neg (fun e => hn 4 (by decide) (by rw [e]; rfl)), if_neg (fun e => hn 5 (by decide) (by rw [e]; rfl)), if_neg (fun e => hn 6 (by decide) (by rw [e]; rfl)), if_neg (fun e => hn 7 (by decide) (by rw [e]; rfl))]
theorem hex_at : ∀ d, d < 16 → ([48, 49, 50, 51, 52, 53, 54, 55, 56, 57, 97, 98, 99, 100, 101, 102] : List UInt8).drop d = hexC d :: ([48, 49, 50, 51, 52, 53, 54, 55, 56, 57, 97, 98, 99, 100, 101, 102] : List UInt8).drop (d + 1) := by decide
theorem letters_drop : ∀ i, i < 9 → ([48, 97, 98, 116, 110, 118, 102, 114, 101, 9, 32, 34, 47, 92, 78, 95, 76, 80] : List UInt8).drop i = (escL.getD i 0).toUInt8 :: ([48, 97, 98, 116, 110, 118, 102, 114, 101, 9, 32, 34, 47, 92, 78, 95, 76, 80] : List UInt8).drop (i + 1) := by decide
/-- Where no letter tells it, and it may not be told itself. -/
theorem shr16 (n i : Nat) : (n : Int) / 2 ^ (4 * i) = ((n / 16 ^ i : Nat) : Int) := by
  have e3 : (2 : Int) ^ (4 * i) = ((16 ^ i : Nat) : Int) := by rw [Int.pow_mul]; norm_cast
  rw [e3]
  exact (Int.natCast_ediv _ _).symm
set_option maxRecDepth 100000 in
set_option maxHeartbeats 8000000 in
theorem rshow_c (r : Int) (w : World) : Calls Tryz.prog 102 #[.int .i32 r] w fun e w' => e = .returned (.string ⟨(showM r).toArray⟩) ∧ Below w.heap.size w w' := by
  have hx := fixr_scalar r
  have hsh : showM r = if letM (fixr r) ≠ [] then letM (fixr r) else if printable (fixr r) then Lib.encodeRune (fixr r) else codedM (fixr r).toNat := rfl
  have hv : (scal r = true ∧ fixr r = r) ∨ (scal r = false ∧ fixr r = 65533) := by
    unfold scal fixr
    by_cases h : (0 ≤ r ∧ r < 55296) ∨ (57343 < r ∧ r ≤ 1114111)
    · left
      refine ⟨?_, if_pos h⟩
      simp; omega
    · right
      refine ⟨?_, if_neg h⟩
      rw [Bool.eq_false_iff]
      simp; omega
  have hV := fun w => refScalar_c r w
  generalize scal r = vb at *
  obtain ⟨x, hfx⟩ : ∃ x, fixr r = x := ⟨_, rfl⟩
  rw [hfx] at hx hsh hv
  clear hfx
  generalize showM r = S at *
  have HS := Lib.hid hsh
  clear hsh
  have hP := fun w => refPrintable_c x w
  have hBy := fun w => refBytes_c x w
  go_enter Tryz.func102, Tryz.ntmps102
  go_wp2_with fail
  refine (hV _).mono ?_
  rintro e w1 ⟨rfl, rfl⟩
  go_upto_if 10 with fail
  go_cut [0] (fun s wx => s = .int .i32 x ∧ wx = w)
  case first =>
    rcases hv with ⟨rfl, h2⟩ | ⟨rfl, h2⟩
    · have H2 := Lib.hid h2
      clear h2 hx
      go_wp2_with fail
      go_meet
      exact ⟨by rw [H2.out], rfl⟩
    · have H2 := Lib.hid h2
      clear h2 hx
      go_wp2_with fail
      go_meet
      exact ⟨by rw [H2.out], rfl⟩
  case rest =>
    obtain ⟨rfl, rfl⟩ := hcut
    clear hv hV
    by_cases h34 : x = 34
    · subst h34
      have HE : Hid (S = [92, 34]) := Lib.hid (by rw [HS.out, if_pos (by decide)]; rfl)
      clear HS hP hBy
      go_wp2_with fail
      go_ret
      exact ⟨ret_str (by rw [HE.out]), Below.refl _ _⟩
    by_cases h92 : x = 92
    · subst h92
      have HE : Hid (S = [92, 92]) := Lib.hid (by rw [HS.out, if_pos (by decide)]; rfl)
      clear HS hP hBy
      go_wp2_with fail
      go_ret
      exact ⟨ret_str (by rw [HE.out]), Below.refl _ _⟩
    have g34 : (x == 34) = false := by rw [beq_eq_false_iff_ne]; exact h34
    have g92 : (x == 92) = false := by rw [beq_eq_false_iff_ne]; exact h92
    have hnine := let_nine h34 h92
    have HN := Lib.hid hnine
    clear hnine h34 h92
    go_wp2_with fail
    go_loop [3] (fun s => ∃ i : Nat, i ≤ 9 ∧ s = .int .i64 i ∧ Hid (∀ j, j < i → ((escV.getD j 0 : Nat) : Int) ≠ x)) (fun s => 9 - (intOf s).toNat)
    case atStart => exact ⟨0, by omega, rfl, Lib.hid (fun j hj => by omega)⟩
    case round =>
      obtain ⟨i, hi, rfl, HJ⟩ := hrel
      by_cases hlt : i < 9
      · have hT := fun w => rtold_c i w (by omega)
        have hld := letters_drop i hlt
        have hi0 : (0 : Int) ≤ (i : Int) := by omega
        have hi1 : ((i : Int) + 1).toNat = i + 1 := by omega
        have hi2 : (i : Int) + 1 ≤ 18 := by omega
        have hi3 : (i : Int) ≤ (i : Int) + 1 := by omega
        by_cases heq : ((escV.getD i 0 : Nat) : Int) = x
        · have HE : Hid (S = [92, (escL.getD i 0).toUInt8]) := Lib.hid (by
            have hl : letM x = [92, (escL.getD i 0).toUInt8] := by rw [← heq]; exact let_key i hlt
            rw [HS.out, hl, if_pos (by simp)])
          rw [heq] at hT
          clear HS hP hBy HN HJ heq hx
          generalize escL.getD i 0 = c at *
          go_wp2_with fail
          refine (hT _).mono ?_
          rintro e w1 ⟨rfl, rfl⟩
          go_wp2_with fail
          go_ret
          exact ⟨ret_str (by rw [HE.out]), Below.refl _ _⟩
        · have hne : (((escV.getD i 0 : Nat) : Int) == x) = false := by rw [beq_eq_false_iff_ne]; exact heq
          have HJ2 : Hid (∀ j, j < i + 1 → ((escV.getD j 0 : Nat) : Int) ≠ x) := Lib.hid (fun j hj => by
            rcases Nat.lt_or_ge j i with h | h
            · exact HJ.out j h
            · rw [show j = i by omega]; exact heq)
          clear HJ heq hld
          generalize escV.getD i 0 = v at *
          go_wp2_with fail
          refine (hT _).mono ?_
          rintro e w1 ⟨rfl, rfl⟩
          go_wp2_with fail
          go_round
          case rel => exact ⟨i + 1, by omega, by go_num, HJ2⟩
          case measure => simp [intOf]; omega
      · have hl : letM x = [] := by
          rcases HN.out with ⟨j, hj, hjx, _⟩ | ⟨_, h⟩
          · exact absurd hjx (HJ.out j (by omega))
          · exact h
        have hge : ¬ ((i : Int) < 9) := by omega
        cases hp : printable x with
        | true =>
          rw [hp] at hP
          have HE : Hid (S = Lib.encodeRune x) := Lib.hid (by rw [HS.out, hl, if_neg (by simp), if_pos hp])
          clear HS hl hp HN HJ
          go_wp2_with fail
          refine (hP _).mono ?_
          rintro e w1 ⟨rfl, rfl⟩
          go_wp2_with fail
          refine (hBy _).mono ?_
          rintro e w1 ⟨rfl, hb⟩
          go_wp2_with fail
          go_ret
          exact ⟨ret_str (by rw [HE.out]), hb⟩
        | false =>
          rw [hp] at hP
          obtain ⟨n, rfl⟩ := Int.eq_ofNat_of_zero_le hx.1
          have HE : Hid (S = codedM n) := Lib.hid (by rw [HS.out, hl, if_neg (by simp), if_neg (by rw [hp]; decide)]; rfl)
          have hn : n ≤ 1114111 := by omega
          clear HS hl hp HN HJ hBy hx
          have hkd : ∃ (m : Nat) (pre : List UInt8), pre.length = 2 ∧ (m = 2 ∨ m = 4 ∨ m = 8) ∧ codedM n = pre ++ hexE m n ∧ ((n ≤ 255 ∧ m = 2 ∧ pre = [92, 120]) ∨ (¬ n ≤ 255 ∧ n ≤ 65535 ∧ m = 4 ∧ pre = [92, 117]) ∨ (¬ n ≤ 255 ∧ ¬ n ≤ 65535 ∧ m = 8 ∧ pre = [92, 85])) := by
            unfold codedM
            by_cases k1 : n ≤ 255
            · exact ⟨2, [92, 120], rfl, .inl rfl, by rw [if_pos k1], .inl ⟨k1, rfl, rfl⟩⟩
            · by_cases k2 : n ≤ 65535
              · exact ⟨4, [92, 117], rfl, .inr (.inl rfl), by rw [if_neg k1, if_pos k2], .inr (.inl ⟨k1, k2, rfl, rfl⟩)⟩
              · exact ⟨8, [92, 85], rfl, .inr (.inr rfl), by rw [if_neg k1, if_neg k2], .inr (.inr ⟨k1, k2, rfl, rfl⟩)⟩
          obtain ⟨m, pre, hpl, hm, hcd, hks⟩ := hkd
          have HCD := Lib.hid hcd
          clear hcd
          rcases hks with ⟨k1, rfl, rfl⟩ | ⟨k1, k2, rfl, rfl⟩ | ⟨k1, k2, rfl, rfl⟩
          · clear hm
            have g1 : decide ((n : Int) ≤ 255) = true := by simp; omega
            clear hpl
            go_wp2_with fail
            refine (hP _).mono ?_
            rintro e w1 ⟨rfl, rfl⟩
            go_wp2_with fail
            go_loopw [5, 6] (fun s x wr => ∃ (j : Nat) (t : List UInt8), wr = wc ∧ j ≤ 2 ∧ s = .string ⟨t.toArray⟩ ∧ t.length = 2 + (2 - j) ∧ Hid (t = [92, 120] ++ hexE (2 - j) (n / 16 ^ j)) ∧ x = .int .i64 ((j : Int) - 1)) (fun _ x _ => (intOf x + 1).toNat)
            case atStart => exact ⟨2, [92, 120], rfl, Nat.le_refl _, rfl, rfl, Lib.hid rfl, rfl⟩
            case round =>
              obtain ⟨j, t, rfl, hj, rfl, htl, HT, rfl⟩ := hrel
              cases j with
              | zero =>
                have HE2 : Hid (S = t) := Lib.hid (by rw [HE.out, HCD.out, HT.out]; simp)
                go_wp2_with fail
                go_ret
                exact ⟨ret_str (by rw [HE2.out]), Below.refl _ _⟩
              | succ i =>
                have hsh := shr16 n i
                have HT2 : Hid (t ++ [hexC (n / 16 ^ i % 16)] = [92, 120] ++ hexE (2 - i) (n / 16 ^ i)) := Lib.hid (by
                  rw [show 2 - i = 2 - (i + 1) + 1 by omega, hexE_step, HT.out, List.append_assoc])
                have hqn : n / 16 ^ i ≤ 1114111 := Nat.le_trans (Nat.div_le_self _ _) hn
                generalize hq : n / 16 ^ i = q at *
                have HQq := Lib.hid hq
                clear hq
                have hand : bits .and .i32 (q : Int) 15 = ((q % 16 : Nat) : Int) := by
                  have h := bits_mask .i32 31 (by decide) wraps_i32 4 (by decide) (q : Int) (by omega) (by omega)
                  rw [show ((2 : Int) ^ 4 - 1) = 15 by decide] at h
                  rw [h]
                  omega
                have hd16 : q % 16 < 16 := by omega
                have hha := hex_at (q % 16) hd16
                generalize q % 16 = d at *
                have hd0 : (0 : Int) ≤ (d : Int) := by omega
                have hd1 : ((d : Int) + 1).toNat = d + 1 := by omega
                have hd2 : (d : Int) + 1 ≤ 16 := by omega
                have hd3 : (d : Int) ≤ (d : Int) + 1 := by omega
                have hi1 : ((i + 1 : Nat) : Int) - 1 = (i : Int) := by omega
                have hi0 : (0 : Int) ≤ (i : Int) := by omega
                rw [hi1]
                have htl2 : t.length ≤ 20 := by omega
                clear hi1 HT
                go_wp2_with fail
                go_roundw
                case rel => exact ⟨i, _, trivial, by omega, rfl, by simp; omega, by rw [HQq.out]; exact HT2, rfl⟩
                case measure => simp [intOf]
          · clear hm
            have g1 : decide ((n : Int) ≤ 255) = false := by simp; omega
            have g2 : decide ((n : Int) ≤ 65535) = true := by simp; omega
            clear hpl
            go_wp2_with fail
            refine (hP _).mono ?_
            rintro e w1 ⟨rfl, rfl⟩
            go_wp2_with fail
            go_loopw [5, 6] (fun s x wr => ∃ (j : Nat) (t : List UInt8), wr = wc ∧ j ≤ 4 ∧ s = .string ⟨t.toArray⟩ ∧ t.length = 2 + (4 - j) ∧ Hid (t = [92, 117] ++ hexE (4 - j) (n / 16 ^ j)) ∧ x = .int .i64 ((j : Int) - 1)) (fun _ x _ => (intOf x + 1).toNat)
            case atStart => exact ⟨4, [92, 117], rfl, Nat.le_refl _, rfl, rfl, Lib.hid rfl, rfl⟩
            case round =>
              obtain ⟨j, t, rfl, hj, rfl, htl, HT, rfl⟩ := hrel
              cases j with
              | zero =>
                have HE2 : Hid (S = t) := Lib.hid (by rw [HE.out, HCD.out, HT.out]; simp)
                go_wp2_with fail
                go_ret
                exact ⟨ret_str (by rw [HE2.out]), Below.refl _ _⟩
              | succ i =>
                have hsh := shr16 n i
                have HT2 : Hid (t ++ [hexC (n / 16 ^ i % 16)] = [92, 117] ++ hexE (4 - i) (n / 16 ^ i)) := Lib.hid (by
                  rw [show 4 - i = 4 - (i + 1) + 1 by omega, hexE_step, HT.out, List.append_assoc])
                have hqn : n / 16 ^ i ≤ 1114111 := Nat.le_trans (Nat.div_le_self _ _) hn
                generalize hq : n / 16 ^ i = q at *
                have HQq := Lib.hid hq
                clear hq
                have hand : bits .and .i32 (q : Int) 15 = ((q % 16 : Nat) : Int) := by
                  have h := bits_mask .i32 31 (by decide) wraps_i32 4 (by decide) (q : Int) (by omega) (by omega)
                  rw [show ((2 : Int) ^ 4 - 1) = 15 by decide] at h
                  rw [h]
                  omega
                have hd16 : q % 16 < 16 := by omega
                have hha := hex_at (q % 16) hd16
                generalize q % 16 = d at *
                have hd0 : (0 : Int) ≤ (d : Int) := by omega
                have hd1 : ((d : Int) + 1).toNat = d + 1 := by omega
                have hd2 : (d : Int) + 1 ≤ 16 := by omega
                have hd3 : (d : Int) ≤ (d : Int) + 1 := by omega
                have hi1 : ((i + 1 : Nat) : Int) - 1 = (i : Int) := by omega
                have hi0 : (0 : Int) ≤ (i : Int) := by omega
                rw [hi1]
                have htl2 : t.length ≤ 20 := by omega
                clear hi1 HT
                go_wp2_with fail
                go_roundw
                case rel => exact ⟨i, _, trivial, by omega, rfl, by simp; omega, by rw [HQq.out]; exact HT2, rfl⟩
                case measure => simp [intOf]
          · clear hm
            have g1 : decide ((n : Int) ≤ 255) = false := by simp; omega
            have g2 : decide ((n : Int) ≤ 65535) = false := by simp; omega
            clear hpl
            go_wp2_with fail
            refine (hP _).mono ?_
            rintro e w1 ⟨rfl, rfl⟩
            go_wp2_with fail
            go_loopw [5, 6] (fun s x wr => ∃ (j : Nat) (t : List UInt8), wr = wc ∧ j ≤ 8 ∧ s = .string ⟨t.toArray⟩ ∧ t.length = 2 + (8 - j) ∧ Hid (t = [92, 85] ++ hexE (8 - j) (n / 16 ^ j)) ∧ x = .int .i64 ((j : Int) - 1)) (fun _ x _ => (intOf x + 1).toNat)
            case atStart => exact ⟨8, [92, 85], rfl, Nat.le_refl _, rfl, rfl, Lib.hid rfl, rfl⟩
            case round =>
              obtain ⟨j, t, rfl, hj, rfl, htl, HT, rfl⟩ := hrel
              cases j with
              | zero =>
                have HE2 : Hid (S = t) := Lib.hid (by rw [HE.out, HCD.out, HT.out]; simp)
                go_wp2_with fail
                go_ret
                exact ⟨ret_str (by rw [HE2.out]), Below.refl _ _⟩
              | succ i =>
                have hsh := shr16 n i
                have HT2 : Hid (t ++ [hexC (n / 16 ^ i % 16)] = [92, 85] ++ hexE (8 - i) (n / 16 ^ i)) := Lib.hid (by
                  rw [show 8 - i = 8 - (i + 1) + 1 by omega, hexE_step, HT.out, List.append_assoc])
                have hqn : n / 16 ^ i ≤ 1114111 := Nat.le_trans (Nat.div_le_self _ _) hn
                generalize hq : n / 16 ^ i = q at *
                have HQq := Lib.hid hq
                clear hq
                have hand : bits .and .i32 (q : Int) 15 = ((q % 16 : Nat) : Int) := by
                  have h := bits_mask .i32 31 (by decide) wraps_i32 4 (by decide) (q : Int) (by omega) (by omega)
                  rw [show ((2 : Int) ^ 4 - 1) = 15 by decide] at h
                  rw [h]
                  omega
                have hd16 : q % 16 < 16 := by omega
                have hha := hex_at (q % 16) hd16
                generalize q % 16 = d at *
                have hd0 : (0 : Int) ≤ (d : Int) := by omega
                have hd1 : ((d : Int) + 1).toNat = d + 1 := by omega
                have hd2 : (d : Int) + 1 ≤ 16 := by omega
                have hd3 : (d : Int) ≤ (d : Int) + 1 := by omega
                have hi1 : ((i + 1 : Nat) : Int) - 1 = (i : Int) := by omega
                have hi0 : (0 : Int) ≤ (i : Int) := by omega
                rw [hi1]
                have htl2 : t.length ≤ 20 := by omega
                clear hi1 HT
                go_wp2_with fail
                go_roundw
                case rel => exact ⟨i, _, trivial, by omega, rfl, by simp; omega, by rw [HQq.out]; exact HT2, rfl⟩
                case measure => simp [intOf]
end Go.Proofs.YtjfgcbikdibjeaaGreatDoor
