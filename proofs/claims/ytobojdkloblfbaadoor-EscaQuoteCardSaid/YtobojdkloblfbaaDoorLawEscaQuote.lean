/- The walk of bosketlaw5.EscaQuote. -/
import Derived.Test.YtobojdkloblfbaaDoorLawEsca0
namespace Go.Proofs.YtobojdkloblfbaaDoor
open Go.RowKit U Go.Proofs

theorem ends_byt {t m : List UInt8} {q : UInt8} (h : t = [q] ++ m ++ [q]) : 2 ≤ t.length ∧ byt t 0 = q.toNat ∧ byt t (t.length - 1) = q.toNat := by
  subst h
  refine ⟨by simp, rfl, ?_⟩
  have e : ([q] ++ m ++ [q]).length - 1 = ([q] ++ m).length + 0 := by simp
  rw [e, byt_at]
  rfl
set_option maxRecDepth 100000 in
set_option maxHeartbeats 4000000 in
theorem escaQuoteF (l : List UInt8) (w : World) (hE : Env w) (hT : Tz w) (hl : l.length ≤ 100) :
    Calls Tryd.prog 6 #[.string ⟨l.toArray⟩, .bool false] w fun e w' => e = .returned (.bool true) ∧ Below w.heap.size w w' := by
  have hA := At.refl hE
  have hcond : (false && singleM l) = false := by simp
  have hQ := fun w hE hT => quote_c l false w hE hT (by omega)
  have hSt := fun w hE hle => single_c (quoteM l false) w hE hle
  rw [quote_single l false] at hSt
  obtain ⟨m, hm⟩ := quote_ends l false
  have hqq : quoteQ l false = 34 := by unfold quoteQ; rw [hcond]; rfl
  rw [hqq] at hm
  obtain ⟨h2, hb0, hb1⟩ := ends_byt hm
  have hG := good_start l false hcond
  have hle := quote_le l false
  clear hm hqq hcond
  generalize quoteM l false = t at *
  have hG := Lib.hid hG
  have e0 : ((byt t 0 : Int) != 34) = false := by rw [hb0]; rfl
  have e1 : ((byt t (t.length - 1) : Int) != 34) = false := by rw [hb1]; rfl
  clear hb0 hb1
  go_enter Tryd.func6, Tryd.ntmps6
  go_wp2_with fail
  refine (hQ _ hA.env (hT.below hA.below)).mono ?_
  rintro e w1 ⟨rfl, hb⟩
  have hA := hA.step hb
  clear hb hQ
  go_wp2_with fail
  refine (hSt _ hA.env (by omega)).mono ?_
  rintro e w1 ⟨rfl, hb⟩
  have hA := hA.step hb
  clear hb hSt e0 e1
  go_wp2_with fail
  go_loopw [7] (fun x wr => ∃ k : Nat, 1 ≤ k ∧ k < t.length ∧ x = .int .i64 k ∧ Hid (GoodD t k) ∧ At w wr) (fun x _ => t.length - (intOf x).toNat)
  case atStart => exact ⟨1, by omega, by omega, rfl, hG, hA⟩
  case round =>
    obtain ⟨k, hk0, hk1, rfl, hG, hA⟩ := hrel
    by_cases hlt : k + 1 < t.length
    · rcases good_step hG.out hlt with ⟨g1, v, n, g2, g3, g4, g5⟩ | ⟨g1, g2, g3⟩
      · have c1 : ((byt t k : Int) == 92) = true := by rw [g1]; rfl
        have hr := fun w => escRead_c t k w (by omega) (by omega) (by omega)
        rw [g2] at hr
        have hG2 := Lib.hid g5
        clear g1 g2 g5 hG
        go_wp2_with fail
        refine (hr _).mono ?_
        rintro e w2 ⟨rfl, rfl⟩
        go_wp2_with fail
        go_roundw
        case rel => exact ⟨n, by omega, g4, by go_num, hG2, hA⟩
        case measure => simp [intOf]; omega
      · have c1 : ((byt t k : Int) == 92) = false := by rw [beq_eq_false_iff_ne]; omega
        have c2 : ((byt t k : Int) == 34) = false := by rw [beq_eq_false_iff_ne]; omega
        have hG2 := Lib.hid g3
        clear g1 g2 g3 hG
        go_wp2_with fail
        go_roundw
        case rel => exact ⟨k + 1, by omega, hlt, by go_num, hG2, hA⟩
        case measure => simp [intOf]; omega
    · go_wp2_with fail
      refine (awake5_c _ hA.env (hT.below hA.below)).mono ?_
      rintro e w3 ⟨rfl, hb⟩
      have hA := hA.step hb
      clear hb
      go_wp2_with fail
      go_ret
      exact ⟨rfl, hA.below⟩
set_option maxRecDepth 100000 in
set_option maxHeartbeats 4000000 in
theorem escaQuoteT (l : List UInt8) (w : World) (hE : Env w) (hT : Tz w) (hl : l.length ≤ 100) (hs : singleM l = true) :
    Calls Tryd.prog 6 #[.string ⟨l.toArray⟩, .bool true] w fun e w' => e = .returned (.bool true) ∧ Below w.heap.size w w' := by
  have hA := At.refl hE
  have hcond : (true && singleM l) = true := by simp [hs]
  have hQ := fun w hE hT => quote_c l true w hE hT (by omega)
  have hSt := fun w hE hle => single_c (quoteM l true) w hE hle
  rw [quote_single l true] at hSt
  obtain ⟨m, hm⟩ := quote_ends l true
  have hqq : quoteQ l true = 39 := by unfold quoteQ; rw [hcond]; rfl
  rw [hqq] at hm
  obtain ⟨h2, hb0, hb1⟩ := ends_byt hm
  have hG := goods_start l true hcond
  have hle := quote_le l true
  have hSl := fun w hE => single_c l w hE (by omega)
  rw [hs] at hSl
  clear hm hqq hcond
  generalize quoteM l true = t at *
  have hG := Lib.hid hG
  have e0 : ((byt t 0 : Int) != 39) = false := by rw [hb0]; rfl
  have e1 : ((byt t (t.length - 1) : Int) != 39) = false := by rw [hb1]; rfl
  clear hb0 hb1
  go_enter Tryd.func6, Tryd.ntmps6
  go_wp2_with fail
  refine (hQ _ hA.env (hT.below hA.below)).mono ?_
  rintro e w1 ⟨rfl, hb⟩
  have hA := hA.step hb
  clear hb hQ
  go_wp2_with fail
  refine (hSl _ hA.env).mono ?_
  rintro e w1 ⟨rfl, hb⟩
  have hA := hA.step hb
  clear hb hSl
  go_wp2_with fail
  refine (hSt _ hA.env (by omega)).mono ?_
  rintro e w1 ⟨rfl, hb⟩
  have hA := hA.step hb
  clear hb hSt e0 e1
  go_wp2_with fail
  go_loopw [7] (fun x wr => ∃ k : Nat, 1 ≤ k ∧ k < t.length ∧ x = .int .i64 k ∧ Hid (GoodS t k) ∧ At w wr) (fun x _ => t.length - (intOf x).toNat)
  case atStart => exact ⟨1, by omega, by omega, rfl, hG, hA⟩
  case round =>
    obtain ⟨k, hk0, hk1, rfl, hG, hA⟩ := hrel
    by_cases hlt : k + 1 < t.length
    · rcases goods_step hG.out hlt with ⟨g1, g2, g3, g4⟩ | ⟨g1, g2⟩
      · have c1 : ((byt t k : Int) == 39) = true := by rw [g1]; rfl
        have c2 : ((byt t (k + 1) : Int) != 39) = false := by rw [g3]; rfl
        have hG2 := Lib.hid g4
        clear g1 g3 g4 hG
        go_wp2_with fail
        go_roundw
        case rel => exact ⟨k + 2, by omega, g2, by go_num, hG2, hA⟩
        case measure => simp [intOf]; omega
      · have c1 : ((byt t k : Int) == 39) = false := by rw [beq_eq_false_iff_ne]; omega
        have hG2 := Lib.hid g2
        clear g1 g2 hG
        go_wp2_with fail
        go_roundw
        case rel => exact ⟨k + 1, by omega, hlt, by go_num, hG2, hA⟩
        case measure => simp [intOf]; omega
    · go_wp2_with fail
      refine (awake5_c _ hA.env (hT.below hA.below)).mono ?_
      rintro e w3 ⟨rfl, hb⟩
      have hA := hA.step hb
      clear hb
      go_wp2_with fail
      go_ret
      exact ⟨rfl, hA.below⟩
set_option maxRecDepth 100000 in
set_option maxHeartbeats 4000000 in
theorem escaQuoteN (l : List UInt8) (w : World) (hE : Env w) (hT : Tz w) (hl : l.length ≤ 100) (hs : singleM l = false) :
    Calls Tryd.prog 6 #[.string ⟨l.toArray⟩, .bool true] w fun e w' => e = .returned (.bool true) ∧ Below w.heap.size w w' := by
  have hA := At.refl hE
  have hcond : (true && singleM l) = false := by simp [hs]
  have hQ := fun w hE hT => quote_c l true w hE hT (by omega)
  have hSt := fun w hE hle => single_c (quoteM l true) w hE hle
  rw [quote_single l true] at hSt
  obtain ⟨m, hm⟩ := quote_ends l true
  have hqq : quoteQ l true = 34 := by unfold quoteQ; rw [hcond]; rfl
  rw [hqq] at hm
  obtain ⟨h2, hb0, hb1⟩ := ends_byt hm
  have hG := good_start l true hcond
  have hle := quote_le l true
  have hSl := fun w hE => single_c l w hE (by omega)
  rw [hs] at hSl
  clear hm hqq hcond
  generalize quoteM l true = t at *
  have hG := Lib.hid hG
  have e0 : ((byt t 0 : Int) != 34) = false := by rw [hb0]; rfl
  have e1 : ((byt t (t.length - 1) : Int) != 34) = false := by rw [hb1]; rfl
  clear hb0 hb1
  go_enter Tryd.func6, Tryd.ntmps6
  go_wp2_with fail
  refine (hQ _ hA.env (hT.below hA.below)).mono ?_
  rintro e w1 ⟨rfl, hb⟩
  have hA := hA.step hb
  clear hb hQ
  go_wp2_with fail
  refine (hSl _ hA.env).mono ?_
  rintro e w1 ⟨rfl, hb⟩
  have hA := hA.step hb
  clear hb hSl
  go_wp2_with fail
  refine (hSt _ hA.env (by omega)).mono ?_
  rintro e w1 ⟨rfl, hb⟩
  have hA := hA.step hb
  clear hb hSt e0 e1
  go_wp2_with fail
  go_loopw [7] (fun x wr => ∃ k : Nat, 1 ≤ k ∧ k < t.length ∧ x = .int .i64 k ∧ Hid (GoodD t k) ∧ At w wr) (fun x _ => t.length - (intOf x).toNat)
  case atStart => exact ⟨1, by omega, by omega, rfl, hG, hA⟩
  case round =>
    obtain ⟨k, hk0, hk1, rfl, hG, hA⟩ := hrel
    by_cases hlt : k + 1 < t.length
    · rcases good_step hG.out hlt with ⟨g1, v, n, g2, g3, g4, g5⟩ | ⟨g1, g2, g3⟩
      · have c1 : ((byt t k : Int) == 92) = true := by rw [g1]; rfl
        have hr := fun w => escRead_c t k w (by omega) (by omega) (by omega)
        rw [g2] at hr
        have hG2 := Lib.hid g5
        clear g1 g2 g5 hG
        go_wp2_with fail
        refine (hr _).mono ?_
        rintro e w2 ⟨rfl, rfl⟩
        go_wp2_with fail
        go_roundw
        case rel => exact ⟨n, by omega, g4, by go_num, hG2, hA⟩
        case measure => simp [intOf]; omega
      · have c1 : ((byt t k : Int) == 92) = false := by rw [beq_eq_false_iff_ne]; omega
        have c2 : ((byt t k : Int) == 34) = false := by rw [beq_eq_false_iff_ne]; omega
        have hG2 := Lib.hid g3
        clear g1 g2 g3 hG
        go_wp2_with fail
        go_roundw
        case rel => exact ⟨k + 1, by omega, hlt, by go_num, hG2, hA⟩
        case measure => simp [intOf]; omega
    · go_wp2_with fail
      refine (awake5_c _ hA.env (hT.below hA.below)).mono ?_
      rintro e w3 ⟨rfl, hb⟩
      have hA := hA.step hb
      clear hb
      go_wp2_with fail
      go_ret
      exact ⟨rfl, hA.below⟩
set_option maxRecDepth 100000 in
set_option maxHeartbeats 4000000 in
theorem escaQuote_c (l : List UInt8) (s : Bool) (w : World) (hE : Env w) (hT : Tz w) (_hs : l.length ≤ 9223372036854775807) :
    Calls Tryd.prog 6 #[.string ⟨l.toArray⟩, .bool s] w fun e w' => e = .returned (.bool true) ∧ Below w.heap.size w w' := by
  by_cases hl : 100 < l.length
  · have hA := At.refl hE
    go_enter Tryd.func6, Tryd.ntmps6
    go_wp2_with (go_at_call 16; refine (awake5_c _ hA.env (hT.below hA.below)).mono ?_; rintro e w1 ⟨rfl, hb⟩; have hA := hA.step hb; clear hb)
    go_ret
    exact ⟨rfl, hA.below⟩
  · cases s with
    | false => exact escaQuoteF l w hE hT (by omega)
    | true =>
      cases hs : singleM l with
      | true => exact escaQuoteT l w hE hT (by omega) hs
      | false => exact escaQuoteN l w hE hT (by omega) hs
end Go.Proofs.YtobojdkloblfbaaDoor
