/- The walk of bosketlaw10.same. -/
import Derived.Test.YtjnmgmepolpcdaaDoorLawDireAgain
import Derived.Test.YtjnmgmepolpcdaaDoorWRefDirective
namespace Go.Proofs.YtjnmgmepolpcdaaDoor
open Go.RowKit U Go.Proofs

set_option maxRecDepth 100000 in
set_option maxHeartbeats 4000000 in
theorem same10_c (l : List UInt8) (w : World) (hE : Env w) (hs : l.length ≤ 1000000) :
    Calls Tryd.prog 34 #[.string ⟨l.toArray⟩] w fun e w' => e = .returned (.bool true) ∧ Below w.heap.size w w' := by
  have hA := At.refl hE
  have hR := fun w hE => read_c l w hE hs
  have hD := fun w hE => directive_c l w hE hs
  generalize readM l = q at hR hD
  obtain ⟨a, b, c, n⟩ := q
  go_enter Tryd.func34, Tryd.ntmps34
  go_wp2_with fail
  refine (hR _ hA.env).mono ?_
  rintro e w1 ⟨rfl, hb⟩
  have hA := hA.step hb
  clear hb
  go_wp2_with fail
  refine (hD _ hA.env).mono ?_
  rintro e w2 ⟨rfl, hb⟩
  have hA := hA.step hb
  clear hb
  go_wp2_with fail
  go_ret
  exact ⟨rfl, hA.below⟩
theorem rest_none (b t : List UInt8) (c : Bool) (h : (restM b t c).2.2.2 ≠ 0) : (restM b t c).1 = [] := by
  unfold restM at h ⊢
  split
  · rename_i hr; rw [if_pos hr] at h; exact absurd rfl h
  · rfl
theorem read_short {l : List UInt8} (hl : l.length ≤ 80) : (readM l).1.length ≤ 7000 := by
  by_cases h : (readM l).2.2.2 = 0
  · exact readM_len h hl
  · have : (readM l).1 = [] := by
      by_cases h1 : l = [] ∨ byt l 0 ≠ 37
      · rw [readM, if_pos h1]
      · by_cases h2 : 0 ≤ commentM l
        · rw [readM, if_neg h1, if_pos h2] at h ⊢
          exact rest_none _ _ _ h
        · rw [readM, if_neg h1, if_neg h2] at h ⊢
          exact rest_none _ _ _ h
    rw [this]
    exact Nat.zero_le _
end Go.Proofs.YtjnmgmepolpcdaaDoor
