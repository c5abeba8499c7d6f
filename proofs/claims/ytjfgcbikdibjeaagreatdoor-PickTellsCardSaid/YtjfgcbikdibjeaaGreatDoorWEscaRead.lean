/- The walks of package esca: hex digits, and what any escape tells. -/
import Derived.Test.YtjfgcbikdibjeaaGreatDoorWEsca
import Derived.Deep.DeepCutAuto
import Derived.Lib.EndianBits
namespace Go.Proofs.YtjfgcbikdibjeaaGreatDoor
open Go.RowKit U Go.Proofs

theorem or_32 : ∀ c : Nat, c < 256 → bits .or .u8 (c : Int) 32 = ((c ||| 32 : Nat) : Int) := by decide +kernel
theorem valid_scalar (n : Nat) : Lib.validRune (n : Int) = decide (scalarN n) := by
  unfold Lib.validRune scalarN
  rw [Bool.eq_iff_iff]
  simp
  omega
/-- What hex answers: whether it is a code point, and which. -/
def HexRet (R : Option Nat) (w : World) (e : Ending) (w' : World) : Prop := (∃ v : Int, e = .returned (.tuple #[.int .i32 v, .bool R.isSome]) ∧ ∀ n, R = some n → v = n) ∧ w = w'
set_option maxRecDepth 100000 in
set_option maxHeartbeats 4000000 in
theorem ehex_c (m : List UInt8) (w : World) (hm : m.length ≤ 8) :
    Calls Tryz.prog 179 #[.string ⟨m.toArray⟩] w (HexRet (hexO m) w) := by
  obtain ⟨R, hR⟩ : ∃ R, R = hexO m := ⟨_, rfl⟩
  rw [← hR]
  have hR2 : R = match hexF m 0 with | none => none | some k => if scalarN k then some k else none := hR
  have HR := Lib.hid hR2
  clear hR hR2
  have hI := fun (c : Int) w => Tryz.strings_IndexByte ⟨#[48, 49, 50, 51, 52, 53, 54, 55, 56, 57, 97, 98, 99, 100, 101, 102]⟩ c w
  go_enter Tryz.func179, Tryz.ntmps179
  go_wp2_with fail
  go_loop [4, 9] (fun s x => ∃ i n : Nat, i ≤ m.length ∧ s = .int .u64 n ∧ x = .int .i64 i ∧ n ≤ 4294967295 ∧ Hid (n < 16 ^ i) ∧ Hid (R = match hexF (m.drop i) n with | none => none | some k => if scalarN k then some k else none)) (fun _ x => m.length - (intOf x).toNat)
  case atStart => exact ⟨0, 0, Nat.zero_le _, rfl, rfl, by omega, Lib.hid (by decide), HR⟩
  case round =>
    obtain ⟨i, n, hi, rfl, rfl, hn, HN, HR⟩ := hrel
    by_cases hlt : i < m.length
    · have hdc : m.drop i = m[i]'hlt :: m.drop (i + 1) := List.drop_eq_getElem_cons hlt
      have hr := HR.out
      rw [hdc, hexF, byt_get m i hlt] at hr
      have hc := byt_lt m i
      have hor : bits .or .u8 (byt m i : Int) 32 = ((byt m i ||| 32 : Nat) : Int) := or_32 _ hc
      have hIc := fun w => hI ((byt m i ||| 32 : Nat) : Int) w
      have hII : Lib.indexByte [48, 49, 50, 51, 52, 53, 54, 55, 56, 57, 97, 98, 99, 100, 101, 102] (((byt m i ||| 32 : Nat) : Int)).toNat.toUInt8 = hexI (byt m i) := rfl
      cases hd : hexD (byt m i) with
      | none =>
        have HE : Hid (R = none) := Lib.hid (by rw [hr, hd])
        have hz := hexI_none hc hd
        rw [← hII] at hz
        clear hr hd hdc hII HR HN hI
        generalize hQ : Lib.indexByte [48, 49, 50, 51, 52, 53, 54, 55, 56, 57, 97, 98, 99, 100, 101, 102] (((byt m i ||| 32 : Nat) : Int)).toNat.toUInt8 = z at *
        have HQ := Lib.hid hQ
        clear hQ
        by_cases hz0 : z < 0
        · have g : decide (z < 0) = true := decide_eq_true hz0
          clear hz
          go_wp2_with fail
          refine (hIc _).mono ?_
          rintro e w1 ⟨rfl, rfl⟩
          go_wp2_with fail
          go_ret2
          exact ⟨⟨0, by rw [HE.out]; rfl, fun n h => by rw [HE.out] at h; cases h⟩, rfl⟩
        · have g : decide (z < 0) = false := decide_eq_false hz0
          have h48 : byt m i < 48 := by rcases hz with h | h; exact absurd h hz0; exact h
          have g2 : decide ((byt m i : Int) < 48) = true := by simp; omega
          clear hz
          go_wp2_with fail
          refine (hIc _).mono ?_
          rintro e w1 ⟨rfl, rfl⟩
          go_wp2_with fail
          go_ret2
          exact ⟨⟨0, by rw [HE.out]; rfl, fun n h => by rw [HE.out] at h; cases h⟩, rfl⟩
      | some d =>
        have hd16 := hexD_lt hd
        obtain ⟨hz, h48⟩ := hexI_some hc hd
        rw [← hII] at hz
        have HQ := Lib.hid hz
        have HR2 : Hid (R = match hexF (m.drop (i + 1)) (n * 16 + d) with | none => none | some k => if scalarN k then some k else none) := Lib.hid (by rw [hr, hd])
        have hn16 : n * 16 + d < 16 ^ (i + 1) := by
          have := HN.out
          rw [Nat.pow_succ]; omega
        have hnb : n * 16 + d ≤ 4294967295 := by
          have h1 : 16 ^ (i + 1) ≤ 16 ^ 8 := Nat.pow_le_pow_right (by decide) (by omega)
          have h2 : (16 : Nat) ^ 8 = 4294967296 := by decide
          omega
        have HN2 := Lib.hid hn16
        have g : decide ((d : Int) < 0) = false := by simp
        have g2 : decide ((byt m i : Int) < 48) = false := by simp; omega
        have hj : bits .or .u64 ((n : Int) * 16) (d : Int) = (n : Int) * 16 + d := bits_join .u64 64 (by decide) wraps_u64 4 _ _ (by omega) (by omega) (by omega) (by omega) (by omega) (by omega)
        clear hr hd hdc hII HR HN hI hn16
        go_wp2_with fail
        refine (hIc _).mono ?_
        rintro e w1 ⟨rfl, rfl⟩
        rw [show Lib.indexByte (ByteArray.data ⟨#[48, 49, 50, 51, 52, 53, 54, 55, 56, 57, 97, 98, 99, 100, 101, 102]⟩).toList _ = (d : Int) from HQ.out]
        go_wp2_with fail
        go_round
        case rel => exact ⟨i + 1, n * 16 + d, by omega, by go_num, by go_num, hnb, HN2, HR2⟩
        case measure => simp [intOf]; omega
    · obtain rfl : i = m.length := by omega
      have hr := HR.out
      rw [List.drop_length, hexF] at hr
      have HE : Hid (R = if scalarN n then some n else none) := Lib.hid hr
      have hV := fun (x : Int) w => Tryz.utf8_ValidRune x w
      clear hr HR HN hI
      by_cases hbig : n ≤ 1114111
      · have hw32 : IntKind.i32.wrap (n : Int) = (n : Int) := wraps_i32 _ (by omega) (by omega)
        have hVn := fun w => hV (n : Int) w
        rw [valid_scalar] at hVn
        clear hV
        go_wp2_with fail
        refine (hVn _).mono ?_
        rintro e w1 ⟨rfl, rfl⟩
        go_wp2_with fail
        go_ret2
        by_cases hs : scalarN n
        · refine ⟨⟨n, by rw [HE.out, if_pos hs, decide_eq_true hs]; rfl, fun k h => ?_⟩, rfl⟩
          rw [HE.out, if_pos hs] at h
          injection h with h
          rw [h]
        · exact ⟨⟨n, by rw [HE.out, if_neg hs, decide_eq_false hs]; rfl, fun k h => by rw [HE.out, if_neg hs] at h; cases h⟩, rfl⟩
      · have HE2 : Hid (R = none) := Lib.hid (by rw [HE.out, if_neg (fun h => hbig h.1)])
        have g : decide ((n : Int) ≤ 1114111) = false := by simp; omega
        clear HE hV
        go_wp2_with fail
        go_ret2
        exact ⟨⟨_, by rw [HE2.out]; rfl, fun k h => by rw [HE2.out] at h; cases h⟩, rfl⟩
def EscRet (r : Int × Int × Int) (w : World) (e : Ending) (w' : World) : Prop := e = .returned (.tuple #[.int .i32 r.1, .int .i64 r.2.1, .int .i64 r.2.2]) ∧ w = w'
set_option maxRecDepth 100000 in
set_option maxHeartbeats 8000000 in
theorem escRead_c (l : List UInt8) (a : Int) (w : World) (hs : l.length ≤ 1073741824) (ha0 : -9223372036854775808 ≤ a) (ha1 : a ≤ 9223372036854775807) :
    Calls Tryz.prog 160 #[.string ⟨l.toArray⟩, .int .i64 a] w (EscRet (escM l a) w) := by
  obtain ⟨R, hR⟩ : ∃ R, R = escM l a := ⟨_, rfl⟩
  rw [← hR]
  unfold escM at hR
  by_cases h1 : a < 0
  · have HE : Hid (R = (0, a, 5)) := Lib.hid (by rw [hR, if_pos (.inl h1)])
    clear hR
    go_enter Tryz.func160, Tryz.ntmps160
    go_wp2_with fail
    go_ret3
    exact ⟨by rw [HE.out]; rfl, rfl⟩
  by_cases h2 : (l.length : Int) - 1 ≤ a
  · have HE : Hid (R = (0, a, 5)) := Lib.hid (by rw [hR, if_pos (.inr (.inl (by omega)))])
    clear hR
    go_enter Tryz.func160, Tryz.ntmps160
    go_wp2_with fail
    go_ret3
    exact ⟨by rw [HE.out]; rfl, rfl⟩
  obtain ⟨p, rfl⟩ := Int.eq_ofNat_of_zero_le (show 0 ≤ a by omega)
  have hp : p + 1 < l.length := by omega
  rw [show ((p : Int)).toNat = p from rfl] at hR
  by_cases h3 : byt l p = 92
  · rw [if_neg (by omega)] at hR
    have g92 : ((byt l p : Int) != 92) = false := by rw [h3]; rfl
    have hS := fun w => short_c (byt l (p + 1)) w (byt_lt l _)
    have hD := fun w => edigits_c (byt l (p + 1)) w (byt_lt l _)
    have hi1 : ((p : Int) + 1).toNat = p + 1 := by omega
    cases hsh : shortM (byt l (p + 1)) with
    | some v =>
      rw [hsh] at hR hS
      have HE : Hid (R = ((v : Int), (p : Int) + 2, 0)) := Lib.hid hR
      clear hR hsh h3 hD
      go_enter Tryz.func160, Tryz.ntmps160
      go_wp2_with fail
      refine (hS _).mono ?_
      rintro e w1 ⟨rfl, rfl⟩
      go_wp2_with fail
      go_ret3
      exact ⟨by rw [HE.out]; rfl, rfl⟩
    | none =>
      rw [hsh] at hR hS
      simp only at hR
      have hn8 : digM (byt l (p + 1)) ≤ 8 := by unfold digM; (repeat' split) <;> omega
      generalize digM (byt l (p + 1)) = n at *
      clear hsh h3
      by_cases hn0 : n = 0
      · have HE : Hid (R = (0, (p : Int), 5)) := Lib.hid (by rw [hR, if_pos (.inl hn0)])
        subst hn0
        clear hR
        go_enter Tryz.func160, Tryz.ntmps160
        go_wp2_with fail
        refine (hS _).mono ?_
        rintro e w1 ⟨rfl, rfl⟩
        go_wp2_with fail
        refine (hD _).mono ?_
        rintro e w1 ⟨rfl, rfl⟩
        go_wp2_with fail
        go_ret3
        exact ⟨by rw [HE.out]; rfl, rfl⟩
      have g0 : ((n : Int) == 0) = false := by rw [beq_eq_false_iff_ne]; omega
      by_cases hsz : l.length < p + 2 + n
      · have HE : Hid (R = (0, (p : Int), 5)) := Lib.hid (by rw [hR, if_pos (.inr (by omega))])
        have gsz : decide ((l.length : Int) - ((p : Int) + 2) < (n : Int)) = true := by simp; omega
        clear hR hn0
        go_enter Tryz.func160, Tryz.ntmps160
        go_wp2_with fail
        refine (hS _).mono ?_
        rintro e w1 ⟨rfl, rfl⟩
        go_wp2_with fail
        refine (hD _).mono ?_
        rintro e w1 ⟨rfl, rfl⟩
        go_wp2_with fail
        go_ret3
        exact ⟨by rw [HE.out]; rfl, rfl⟩
      rw [if_neg (by omega)] at hR
      have gsz : decide ((l.length : Int) - ((p : Int) + 2) < (n : Int)) = false := by simp; omega
      have hi2 : ((p : Int) + 2).toNat = p + 2 := by omega
      have hi3 : ((p : Int) + 2 + (n : Int)).toNat = p + 2 + n := by omega
      have hi4 : (p : Int) + 2 + (n : Int) ≤ (l.length : Int) := by omega
      have hi5 : (0 : Int) ≤ (p : Int) + 2 := by omega
      have hi6 : (p : Int) + 2 ≤ (p : Int) + 2 + (n : Int) := by omega
      have hH := fun w => ehex_c ((l.drop (p + 2)).take n) w (by rw [List.length_take]; omega)
      generalize hexO ((l.drop (p + 2)).take n) = X at *
      have HR := Lib.hid hR
      clear hR hn0
      cases X with
      | some r =>
        have HE : Hid (R = ((r : Int), (p : Int) + 2 + (n : Int), 0)) := Lib.hid HR.out
        clear HR
        go_enter Tryz.func160, Tryz.ntmps160
        go_wp2_with fail
        refine (hS _).mono ?_
        rintro e w1 ⟨rfl, rfl⟩
        go_wp2_with fail
        refine (hD _).mono ?_
        rintro e w1 ⟨rfl, rfl⟩
        go_wp2_with fail
        refine (hH _).mono ?_
        rintro e w1 ⟨⟨v, rfl, hv⟩, rfl⟩
        obtain rfl := hv r rfl
        clear hv
        go_wp2_with fail
        go_ret3
        exact ⟨by rw [HE.out]; rfl, rfl⟩
      | none =>
        have HE : Hid (R = (0, (p : Int), 5)) := Lib.hid HR.out
        clear HR
        go_enter Tryz.func160, Tryz.ntmps160
        go_wp2_with fail
        refine (hS _).mono ?_
        rintro e w1 ⟨rfl, rfl⟩
        go_wp2_with fail
        refine (hD _).mono ?_
        rintro e w1 ⟨rfl, rfl⟩
        go_wp2_with fail
        refine (hH _).mono ?_
        rintro e w1 ⟨⟨v, rfl, hv⟩, rfl⟩
        clear hv
        go_wp2_with fail
        go_ret3
        exact ⟨by rw [HE.out]; rfl, rfl⟩
  · have HE : Hid (R = (0, (p : Int), 5)) := Lib.hid (by rw [hR, if_pos (.inr (.inr h3))])
    have g92 : ((byt l p : Int) != 92) = true := by simp; omega
    clear hR h3
    go_enter Tryz.func160, Tryz.ntmps160
    go_wp2_with fail
    go_ret3
    exact ⟨by rw [HE.out]; rfl, rfl⟩
end Go.Proofs.YtjfgcbikdibjeaaGreatDoor
