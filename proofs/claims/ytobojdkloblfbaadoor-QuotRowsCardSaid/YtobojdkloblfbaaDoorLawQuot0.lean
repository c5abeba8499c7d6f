/- What the statements on quoted scalars share. -/
import Derived.Test.YtobojdkloblfbaaDoorWQuotF
import Derived.Test.YtobojdkloblfbaaDoorWLow
import Derived.Test.YtobojdkloblfbaaDoorPQuot4
namespace Go.Proofs.YtobojdkloblfbaaDoor
open Go.RowKit U Go.Proofs

/-- Read, where what it comes to is known. -/
theorem quotIs_c {l : List UInt8} {a n : Int} {t : List UInt8} {p e : Int} {one : Bool} (h : quotM l a n = (t, p, one, e)) (w : World) (hs : l.length ≤ 1000000) (ha0 : -9223372036854775808 ≤ a) (ha1 : a ≤ 9223372036854775807) (hn0 : -9223372036854775808 ≤ n) (hn1 : n ≤ 9223372036854775807) :
    Calls Tryd.prog 33 #[.string ⟨l.toArray⟩, .int .i64 a, .int .i64 n] w fun x w' => x = .returned (.tuple #[.string ⟨t.toArray⟩, .int .i64 p, .bool one, .int .i64 e]) ∧ Below w.heap.size w w' := by
  have := quotRead_c l a n w hs ha0 ha1 hn0 hn1
  rw [h] at this
  exact this
set_option maxRecDepth 100000 in
set_option maxHeartbeats 4000000 in
theorem awake12_c (w : World) : Calls Tryd.prog 29 #[] w fun e w' => e = .returned (.bool true) ∧ Below w.heap.size w w' := by
  have h1 := fun w => quotIs_c awakeQ1 w (by decide) (by omega) (by omega) (by omega) (by omega)
  have h2 := fun w => quotIs_c awakeQ2 w (by decide) (by omega) (by omega) (by omega) (by omega)
  unfold awQ1 at h1
  unfold awQ2 at h2
  go_enter Tryd.func29, Tryd.ntmps29
  go_wp2_with fail
  refine (h1 _).mono ?_
  rintro e w1 ⟨rfl, hb1⟩
  go_wp2_with fail
  refine (h2 _).mono ?_
  rintro e w2 ⟨rfl, hb2⟩
  go_wp2_with fail
  go_ret
  exact ⟨rfl, hb1.trans (hb2.mono hb1.size)⟩
end Go.Proofs.YtobojdkloblfbaaDoor
