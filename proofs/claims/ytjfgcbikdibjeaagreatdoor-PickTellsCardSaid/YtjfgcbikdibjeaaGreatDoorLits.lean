/- A table of texts that a statement lays, and a small number of it. -/
import Derived.Test.YtjfgcbikdibjeaaGreatDoorWLow
import Derived.Test.YtjfgcbikdibjeaaGreatDoorLong
namespace Go.Proofs.YtjfgcbikdibjeaaGreatDoor
open Go.RowKit U Go.Proofs

theorem lit_low (x : Int) (n j : Nat) (w : World) (h0 : 0 < n) (h1 : n ≤ 2147483647) (h : low x n = j) :
    Calls Tryz.prog 24 #[.int .i64 x, .int .i64 n] w fun e w' => e = .returned (.int .i64 j) ∧ w' = w := by
  refine (low_c x n w h0 h1).mono ?_
  rw [h]
  rintro e w' ⟨rfl, rfl⟩
  exact ⟨rfl, rfl⟩
theorem lit_at {xs : List (List UInt8)} {k : Nat} (h : k < xs.length) : (strs xs)[k]? = some (.string ⟨(xs.getD k []).toArray⟩) := by simp [strs, h]
theorem lit_cell (w : World) (e : TypeId) (l : List Value) (i : Nat) (x : Value) (hx : l[i]? = some x) : (w.alloc (.cells l.toArray e)).cell? ⟨w.heap.size, i, none⟩ = some x := by
  rw [World.cell?_alloc_at _ _ _ _ rfl]
  simpa using hx
end Go.Proofs.YtjfgcbikdibjeaaGreatDoor
