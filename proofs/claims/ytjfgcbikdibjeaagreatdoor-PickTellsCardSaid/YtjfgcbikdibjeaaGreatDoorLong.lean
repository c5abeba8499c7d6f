/- Slices of texts; the walk of bosketlaw0.Long. -/
import Derived.Test.YtjfgcbikdibjeaaGreatDoorBase
namespace Go.Proofs.YtjfgcbikdibjeaaGreatDoor
open Go.RowKit U

def strs (xs : List (List UInt8)) : List Value := xs.map fun x : List UInt8 => Value.string ⟨x.toArray⟩
theorem strs_get {xs : List (List UInt8)} {i : Nat} (h : i < xs.length) : (strs xs)[i]? = some (.string ⟨(xs[i]'h).toArray⟩) := by simp [strs, h]
theorem strs_length (xs : List (List UInt8)) : (strs xs).length = xs.length := by simp [strs]
theorem Sl.strs' {w : World} {v : Value} {xs : List (List UInt8)} (h : Sl w v (strs xs)) :
    ∃ a c, v = .slice a xs.length c ∧ (∀ (i : Nat) (hi : i < xs.length), ∃ b off, a = some ⟨b, off, none⟩ ∧ b < w.heap.size ∧ w.cell? ⟨b, off + i, none⟩ = some (.string ⟨(xs[i]'hi).toArray⟩)) := by
  rcases h with ⟨hx, rfl | ⟨ad, c, rfl⟩⟩ | ⟨b, off, c, hne, rfl, hb, hcell⟩
  · obtain rfl : xs = [] := by simpa [strs] using hx
    exact ⟨_, _, rfl, fun i hi => by simp at hi⟩
  · obtain rfl : xs = [] := by simpa [strs] using hx
    exact ⟨_, _, rfl, fun i hi => by simp at hi⟩
  · exact ⟨_, _, by rw [strs_length], fun i hi => ⟨b, off, rfl, hb, hcell i _ (strs_get hi)⟩⟩

/-- bosketlaw0.Long. -/
def long : Int → List (List UInt8) → Bool
  | _, [] => false
  | n, x :: xs => if n ≤ x.length then true else long (n - x.length - 1) xs

end Go.Proofs.YtjfgcbikdibjeaaGreatDoor
