/- The walks of package plai: where a plain scalar begins, where a part ends. -/
import Derived.Test.YtjfgcbikdibjeaaGreatDoorPAllA
import Derived.Test.YtjfgcbikdibjeaaGreatDoorWRows2
import Derived.Deep.DeepCutAuto
import Derived.Deep.CutBlock
namespace Go.Proofs.YtjfgcbikdibjeaaGreatDoor
open Go.RowKit U Go.Proofs

set_option maxRecDepth 100000 in
set_option maxHeartbeats 2000000 in
theorem indicator_c (b : Nat) (w : World) (hb : b < 256) : Calls Tryz.prog 80 #[.int .u8 b] w fun e w' => e = .returned (.bool (indN b)) ∧ w = w' := by
  have hF := fun w => flow_c b w hb
  obtain ⟨S, hS⟩ : ∃ S, S = indN b := ⟨_, rfl⟩
  rw [← hS]
  unfold indN at hS
  generalize flowN b = fl at *
  have HS := Lib.hid hS
  clear hS
  have lit : ∀ c : Nat, (c = 45 ∨ c = 63 ∨ c = 58 ∨ c = 35 ∨ c = 38 ∨ c = 42 ∨ c = 33 ∨ c = 124 ∨ c = 62 ∨ c = 39 ∨ c = 34 ∨ c = 37 ∨ c = 64 ∨ c = 96) → b = c → S = true := fun c hc h => by rw [HS.out, h, decide_eq_true hc]; rfl
  by_cases h1 : b = 45
  · have HE := Lib.hid (lit 45 (by decide) h1); subst h1; clear HS lit hF
    go_enter Tryz.func80, Tryz.ntmps80
    go_wp2_with fail
    go_ret
    exact ⟨ret_bool HE.out.symm, rfl⟩
  by_cases h2 : b = 63
  · have HE := Lib.hid (lit 63 (by decide) h2); subst h2; clear HS lit hF h1
    go_enter Tryz.func80, Tryz.ntmps80
    go_wp2_with fail
    go_ret
    exact ⟨ret_bool HE.out.symm, rfl⟩
  by_cases h3 : b = 58
  · have HE := Lib.hid (lit 58 (by decide) h3); subst h3; clear HS lit hF h1 h2
    go_enter Tryz.func80, Tryz.ntmps80
    go_wp2_with fail
    go_ret
    exact ⟨ret_bool HE.out.symm, rfl⟩
  by_cases h4 : b = 35
  · have HE := Lib.hid (lit 35 (by decide) h4); subst h4; clear HS lit hF h1 h2 h3
    go_enter Tryz.func80, Tryz.ntmps80
    go_wp2_with fail
    go_ret
    exact ⟨ret_bool HE.out.symm, rfl⟩
  by_cases h5 : b = 38
  · have HE := Lib.hid (lit 38 (by decide) h5); subst h5; clear HS lit hF h1 h2 h3 h4
    go_enter Tryz.func80, Tryz.ntmps80
    go_wp2_with fail
    go_ret
    exact ⟨ret_bool HE.out.symm, rfl⟩
  by_cases h6 : b = 42
  · have HE := Lib.hid (lit 42 (by decide) h6); subst h6; clear HS lit hF h1 h2 h3 h4 h5
    go_enter Tryz.func80, Tryz.ntmps80
    go_wp2_with fail
    go_ret
    exact ⟨ret_bool HE.out.symm, rfl⟩
  by_cases h7 : b = 33
  · have HE := Lib.hid (lit 33 (by decide) h7); subst h7; clear HS lit hF h1 h2 h3 h4 h5 h6
    go_enter Tryz.func80, Tryz.ntmps80
    go_wp2_with fail
    go_ret
    exact ⟨ret_bool HE.out.symm, rfl⟩
  by_cases h8 : b = 124
  · have HE := Lib.hid (lit 124 (by decide) h8); subst h8; clear HS lit hF h1 h2 h3 h4 h5 h6 h7
    go_enter Tryz.func80, Tryz.ntmps80
    go_wp2_with fail
    go_ret
    exact ⟨ret_bool HE.out.symm, rfl⟩
  by_cases h9 : b = 62
  · have HE := Lib.hid (lit 62 (by decide) h9); subst h9; clear HS lit hF h1 h2 h3 h4 h5 h6 h7 h8
    go_enter Tryz.func80, Tryz.ntmps80
    go_wp2_with fail
    go_ret
    exact ⟨ret_bool HE.out.symm, rfl⟩
  by_cases h10 : b = 39
  · have HE := Lib.hid (lit 39 (by decide) h10); subst h10; clear HS lit hF h1 h2 h3 h4 h5 h6 h7 h8 h9
    go_enter Tryz.func80, Tryz.ntmps80
    go_wp2_with fail
    go_ret
    exact ⟨ret_bool HE.out.symm, rfl⟩
  by_cases h11 : b = 34
  · have HE := Lib.hid (lit 34 (by decide) h11); subst h11; clear HS lit hF h1 h2 h3 h4 h5 h6 h7 h8 h9 h10
    go_enter Tryz.func80, Tryz.ntmps80
    go_wp2_with fail
    go_ret
    exact ⟨ret_bool HE.out.symm, rfl⟩
  by_cases h12 : b = 37
  · have HE := Lib.hid (lit 37 (by decide) h12); subst h12; clear HS lit hF h1 h2 h3 h4 h5 h6 h7 h8 h9 h10 h11
    go_enter Tryz.func80, Tryz.ntmps80
    go_wp2_with fail
    go_ret
    exact ⟨ret_bool HE.out.symm, rfl⟩
  by_cases h13 : b = 64
  · have HE := Lib.hid (lit 64 (by decide) h13); subst h13; clear HS lit hF h1 h2 h3 h4 h5 h6 h7 h8 h9 h10 h11 h12
    go_enter Tryz.func80, Tryz.ntmps80
    go_wp2_with fail
    go_ret
    exact ⟨ret_bool HE.out.symm, rfl⟩
  by_cases h14 : b = 96
  · have HE := Lib.hid (lit 96 (by decide) h14); subst h14; clear HS lit hF h1 h2 h3 h4 h5 h6 h7 h8 h9 h10 h11 h12 h13
    go_enter Tryz.func80, Tryz.ntmps80
    go_wp2_with fail
    go_ret
    exact ⟨ret_bool HE.out.symm, rfl⟩
  have HE : Hid (S = fl) := Lib.hid (by rw [HS.out, decide_eq_false (by omega)]; rfl)
  have g : ∀ c : Nat, b ≠ c → ((b : Int) == (c : Int)) = false := fun c h => by rw [beq_eq_false_iff_ne]; omega
  have g1 := g 45 h1
  have g2 := g 63 h2
  have g3 := g 58 h3
  have g4 := g 35 h4
  have g5 := g 38 h5
  have g6 := g 42 h6
  have g7 := g 33 h7
  have g8 := g 124 h8
  have g9 := g 62 h9
  have g10 := g 39 h10
  have g11 := g 34 h11
  have g12 := g 37 h12
  have g13 := g 64 h13
  have g14 := g 96 h14
  clear HS lit g h1 h2 h3 h4 h5 h6 h7 h8 h9 h10 h11 h12 h13 h14
  go_enter Tryz.func80, Tryz.ntmps80
  go_wp2_with fail
  refine (hF _).mono ?_
  rintro e w1 ⟨rfl, rfl⟩
  go_wp2_with fail
  go_ret
  exact ⟨ret_bool HE.out.symm, rfl⟩
set_option maxRecDepth 100000 in
set_option maxHeartbeats 2000000 in
theorem stops_c (l : List UInt8) (p : Nat) (flow : Bool) (w : World) (hs : l.length ≤ 1073741824) (hp : p ≤ l.length) :
    Calls Tryz.prog 70 #[.string ⟨l.toArray⟩, .int .i64 p, .bool flow] w fun e w' => e = .returned (.bool (stopsN l p flow)) ∧ w = w' := by
  obtain ⟨S, hS⟩ : ∃ S, S = stopsN l p flow := ⟨_, rfl⟩
  rw [← hS]
  unfold stopsN at hS
  have hE := fun w => ends_c l (p + 1) w hs (by omega)
  rw [show ((p + 1 : Nat) : Int) = (p : Int) + 1 by omega] at hE
  have hF := fun w => flow_c (byt l (p + 1)) w (byt_lt l _)
  have hw1 : IntKind.i64.wrap ((p : Int) + 1) = (p : Int) + 1 := IntWalk.i64_in _ (by omega)
  have hi1 : ((p : Int) + 1).toNat = p + 1 := by omega
  have hlt : endsM l (p + 1) = false → p + 1 < l.length := fun h => by
    rcases Nat.lt_or_ge (p + 1) l.length with h1 | h1
    · exact h1
    · unfold endsM at h; rw [decide_eq_true h1] at h; simp at h
  cases he : endsM l (p + 1) with
  | true =>
    rw [he] at hE hS
    have HS : Hid (S = true) := Lib.hid (by rw [hS]; rfl)
    clear hS he hlt hF
    go_enter Tryz.func70, Tryz.ntmps70
    go_wp2_with fail
    refine (hE _).mono ?_
    rintro e w1 ⟨rfl, rfl⟩
    go_wp2_with fail
    go_ret
    exact ⟨ret_bool HS.out.symm, rfl⟩
  | false =>
    rw [he] at hE hS
    have hlt := hlt he
    cases flow with
    | false =>
      have HS : Hid (S = false) := Lib.hid (by rw [hS]; rfl)
      clear hS he hF
      go_enter Tryz.func70, Tryz.ntmps70
      go_wp2_with fail
      refine (hE _).mono ?_
      rintro e w1 ⟨rfl, rfl⟩
      go_wp2_with fail
      go_ret
      exact ⟨ret_bool HS.out.symm, rfl⟩
    | true =>
      have HS : Hid (S = flowN (byt l (p + 1))) := Lib.hid (by rw [hS]; rfl)
      generalize flowN (byt l (p + 1)) = fl at *
      clear hS he
      go_enter Tryz.func70, Tryz.ntmps70
      go_wp2_with fail
      refine (hE _).mono ?_
      rintro e w1 ⟨rfl, rfl⟩
      go_wp2_with fail
      refine (hF _).mono ?_
      rintro e w1 ⟨rfl, rfl⟩
      go_wp2_with fail
      go_ret
      exact ⟨ret_bool HS.out.symm, rfl⟩
theorem there_c (l : List UInt8) (p : Nat) (w : World) (_hs : l.length ≤ 1073741824) (_hp : p ≤ 2147483647) :
    Calls Tryz.prog 78 #[.string ⟨l.toArray⟩, .int .i64 p] w fun e w' => e = .returned (.bool (decide (p < l.length))) ∧ w = w' := by
  have h0 : (0 : Int) ≤ (p : Int) := by omega
  by_cases h : p < l.length
  · have HD := Lib.hid (decide_eq_true h)
    go_enter Tryz.func78, Tryz.ntmps78
    go_wp2_with fail
    go_ret
    exact ⟨ret_bool (by rw [HD.out]), rfl⟩
  · have HD := Lib.hid (decide_eq_false h)
    have h' : (l.length : Int) ≤ (p : Int) := by omega
    clear h
    go_enter Tryz.func78, Tryz.ntmps78
    go_wp2_with fail
    go_ret
    exact ⟨ret_bool (by rw [HD.out]), rfl⟩
end Go.Proofs.YtjfgcbikdibjeaaGreatDoor
