/- The walk of bosketlaw5.EscaBack. -/
import Derived.Test.YtobojdkloblfbaaDoorLawEsca0
import Derived.Test.YtobojdkloblfbaaDoorWScal
namespace Go.Proofs.YtobojdkloblfbaaDoor
open Go.RowKit U Go.Proofs

theorem scalarOf_ok (n : Int) : scalarOf n ≤ 1114111 ∧ ¬ (55296 ≤ scalarOf n ∧ scalarOf n ≤ 57343) := by
  have := low_lt n 1114112 (by omega)
  unfold scalarOf
  split <;> omega
set_option maxRecDepth 100000 in
set_option maxHeartbeats 4000000 in
theorem escaBack_c (n : Int) (w : World) (hE : Env w) (hT : Tz w) (_n0 : -9223372036854775808 ≤ n) (_n1 : n ≤ 9223372036854775807) :
    Calls Tryd.prog 5 #[.int .i64 n] w fun e w' => e = .returned (.bool true) ∧ Below w.heap.size w w' := by
  have hA := At.refl hE
  have hS := fun w => scalar_c n w
  obtain ⟨h1, h2⟩ := scalarOf_ok n
  generalize scalarOf n = r at *
  have hb := show_back [] [] (r : Int) (by omega) (by omega) (by omega)
  have hsh := fun w hT => show_c (r : Int) w hT
  have hle := show_le (r : Int)
  rw [List.nil_append, List.append_nil] at hb
  rcases hb with ⟨g1, g2, g3⟩ | ⟨g1, g2, g3, g4, g5, _⟩
  · generalize showM (r : Int) = m at *
    have g1 : (byt m 0 : Int) = 92 := by omega
    have g1 : ((byt m 0 : Int) == 92) = true := by rw [g1]; rfl
    have hr := fun w => escRead_c m 0 w (by omega) (by omega) (by omega)
    have g3 : escM m 0 = ((r : Int), (m.length : Int), 0) := by simpa using g3
    rw [g3] at hr
    clear g3
    go_enter Tryd.func5, Tryd.ntmps5
    go_wp2_with fail
    refine (hS _).mono ?_
    rintro e w1 ⟨rfl, rfl⟩
    go_wp2_with fail
    refine (hsh _ (hT.below hA.below)).mono ?_
    rintro e w1 ⟨rfl, hb⟩
    have hA := hA.step hb
    clear hb
    go_wp2_with fail
    refine (hr _).mono ?_
    rintro e w2 ⟨rfl, rfl⟩
    go_wp2_with fail
    refine (awake5_c _ hA.env (hT.below hA.below)).mono ?_
    rintro e w3 ⟨rfl, hb⟩
    have hA := hA.step hb
    clear hb
    go_wp2_with fail
    go_ret
    exact ⟨rfl, hA.below⟩
  · have hcv := fun (W : World) => run_rune (x := (r : Int)) (by omega) (by omega) (by omega) W
    rw [← g3] at hcv
    have hp := fun w => printable_c (r : Int) w
    rw [g4] at hp
    clear g3 g4
    generalize showM (r : Int) = m at *
    have g1 : ((byt m 0 : Int) == 92) = false := by rw [beq_eq_false_iff_ne]; omega
    have g5 : ((r : Int) != 34) = true := by rw [bne_iff_ne]; exact g5
    go_enter Tryd.func5, Tryd.ntmps5
    go_wp2_with fail
    refine (hS _).mono ?_
    rintro e w1 ⟨rfl, rfl⟩
    go_wp2_with fail
    refine (hsh _ (hT.below hA.below)).mono ?_
    rintro e w1 ⟨rfl, hb⟩
    have hA := hA.step hb
    clear hb
    go_wp2_with fail
    refine (hp _).mono ?_
    rintro e w2 ⟨rfl, rfl⟩
    go_wp2_with fail
    refine (awake5_c _ hA.env (hT.below hA.below)).mono ?_
    rintro e w3 ⟨rfl, hb⟩
    have hA := hA.step hb
    clear hb
    go_wp2_with fail
    go_ret
    exact ⟨rfl, hA.below⟩
end Go.Proofs.YtobojdkloblfbaaDoor
