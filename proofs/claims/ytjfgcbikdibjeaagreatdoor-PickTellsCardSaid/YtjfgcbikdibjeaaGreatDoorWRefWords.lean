/- The walk of bosketref1.words. -/
import Derived.Test.YtjfgcbikdibjeaaGreatDoorWRefSign
import Derived.Test.YtjfgcbikdibjeaaGreatDoorLong
namespace Go.Proofs.YtjfgcbikdibjeaaGreatDoor
open Go.RowKit U Go.Proofs

theorem Tryz.infoStr : (Tryz.prog.info? 9).map (fun i => (i.zero, i.size, i.bytes)) = some (some (.string ⟨#[]⟩), 1, 16) := by kernel_rfl
theorem strs_snoc (xs : List (List UInt8)) (x : List UInt8) : strs (xs ++ [x]) = strs xs ++ [.string ⟨x.toArray⟩] := by simp [strs]
/-- What stands between two places. -/
def betw (l : List UInt8) (a b : Nat) : List UInt8 := (l.drop a).take (b - a)
theorem betw_snoc {l : List UInt8} {a k : Nat} (ha : a ≤ k) (h : k < l.length) : betw l a (k + 1) = betw l a k ++ [l[k]'h] := by
  unfold betw
  rw [show k + 1 - a = (k - a) + 1 by omega, List.take_succ_eq_append_getElem (by rw [List.length_drop]; omega), List.getElem_drop]
  congr 2
  congr 1
  omega
theorem betw_emp {l : List UInt8} {a k : Nat} (hk : k ≤ l.length) : (betw l a k).isEmpty = decide (k ≤ a) := by
  unfold betw
  rw [emp_len, List.length_take, List.length_drop, Bool.eq_iff_iff, decide_eq_true_eq, decide_eq_true_eq]
  omega
end Go.Proofs.YtjfgcbikdibjeaaGreatDoor
