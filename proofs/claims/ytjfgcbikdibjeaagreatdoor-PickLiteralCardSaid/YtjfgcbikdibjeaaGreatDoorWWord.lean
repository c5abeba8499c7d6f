/- The walk of bosketlaw0.WordOf. -/
import Derived.Test.YtjfgcbikdibjeaaGreatDoorWLow
namespace Go.Proofs.YtjfgcbikdibjeaaGreatDoor
open Go.RowKit U Go.Proofs

/-- bosketlaw0.WordOf: a word of letters, by a number. -/
def wordList : List (List UInt8) := [[97], [98, 99], [100, 45, 101], [102, 95, 103], [104, 49], [120, 121, 122], [195, 169], [107, 35, 108], [109, 58, 110], [111, 46, 112]]
def wordOf (n : Int) : List UInt8 := wordList.getD (low n 10) []

theorem wordOf_mem (n : Int) : wordOf n ∈ wordList := by
  have h := low_lt n 10 (by omega)
  unfold wordOf
  rw [List.getD_eq_getElem?_getD, List.getElem?_eq_getElem (show low n 10 < wordList.length from h)]
  exact List.getElem_mem _
theorem word_all : ∀ x ∈ wordList, 1 ≤ x.length ∧ x.length ≤ 3 ∧ (∀ b ∈ x, b ≠ 10) ∧ place x = -1 := by decide
theorem wordOf_len (n : Int) : 1 ≤ (wordOf n).length ∧ (wordOf n).length ≤ 3 := ⟨(word_all _ (wordOf_mem n)).1, (word_all _ (wordOf_mem n)).2.1⟩

set_option maxRecDepth 100000 in
set_option maxHeartbeats 1000000 in
theorem word_c (n : Int) (w : World) :
    Calls Tryz.prog 28 #[.int .i64 n] w fun e w' => e = .returned (.string ⟨(wordOf n).toArray⟩) ∧ Below w.heap.size w w' := by
  have hl := low_lt n 10 (by omega)
  have hw : wordOf n = wordList.getD (low n 10) [] := rfl
  generalize hk : low n 10 = k at *
  have HK := Lib.hid hk
  have HW := Lib.hid hw
  clear hk hw
  have h10 : k = 0 ∨ k = 1 ∨ k = 2 ∨ k = 3 ∨ k = 4 ∨ k = 5 ∨ k = 6 ∨ k = 7 ∨ k = 8 ∨ k = 9 := by omega
  rw [HW.out]
  clear HW hl
  rcases h10 with rfl | rfl | rfl | rfl | rfl | rfl | rfl | rfl | rfl | rfl
  all_goals
    go_enter Tryz.func28, Tryz.ntmps28
    go_wp2_with (go_at_call 24; refine (low_c n 10 _ (by omega) (by omega)).mono ?_; rw [HK.out]; rintro e w1 ⟨rfl, rfl⟩)
  all_goals
    go_ret
    exact ⟨rfl, (Below.refl _ _).alloc (Nat.le_refl _) _⟩
end Go.Proofs.YtjfgcbikdibjeaaGreatDoor
