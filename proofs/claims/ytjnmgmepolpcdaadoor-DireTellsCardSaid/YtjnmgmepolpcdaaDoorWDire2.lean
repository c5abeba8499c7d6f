/- The walks of dire.handled and dire.ahead. -/
import Derived.Test.YtjnmgmepolpcdaaDoorWDire
import Derived.Test.YtjnmgmepolpcdaaDoorWSize
namespace Go.Proofs.YtjnmgmepolpcdaaDoor
open Go.RowKit U Go.Proofs

/-- Is a word a tag's handle? -/
def handledM (l : List UInt8) : Bool := [33].isSuffixOf l && sizeM (l ++ [97]) == l.length + 1
/-- May a word stand for a handle? -/
def aheadM (l : List UInt8) : Bool := !flowN (byt l 0) && sizeM (33 :: 60 :: (l ++ [62])) == l.length + 3
set_option maxRecDepth 100000 in
set_option maxHeartbeats 2000000 in
theorem handled_c (l : List UInt8) (w : World) (hs : l.length ≤ 1073741000) :
    Calls Tryd.prog 78 #[.string ⟨l.toArray⟩] w fun e w' => e = .returned (.bool (handledM l)) ∧ w = w' := by
  unfold handledM
  have hH : ∀ w, Calls Tryd.prog 111 #[.string ⟨l.toArray⟩, .string ⟨#[33]⟩] w fun e w' => e = .returned (.bool ([33].isSuffixOf l)) ∧ w' = w := fun w => Tryd.strings_HasSuffix ⟨l.toArray⟩ ⟨#[33]⟩ w (by rw [size_mk]; omega)
  have hS := fun w => size0_c (l ++ [97]) w (by simp; omega)
  have hle : sizeM (l ++ [97]) ≤ 2147483647 := by have := sizeM_le (l ++ [97]); simp at this; omega
  generalize [33].isSuffixOf l = b at *
  generalize sizeM (l ++ [97]) = n at *
  cases b with
  | false =>
    rw [Bool.false_and]
    go_enter Tryd.func78, Tryd.ntmps78
    go_wp2_with fail
    refine (hH _).mono ?_
    rintro e w1 ⟨rfl, rfl⟩
    go_wp2_with fail
    go_ret
    exact ⟨rfl, rfl⟩
  | true =>
    rw [Bool.true_and]
    by_cases hn : n = l.length + 1
    · have g : ((n : Int) == (l.length : Int) + 1) = true := by rw [beq_iff_eq]; omega
      have hr : (n == l.length + 1) = true := by rw [beq_iff_eq]; exact hn
      rw [hr]
      clear hn hr
      go_enter Tryd.func78, Tryd.ntmps78
      go_wp2_with fail
      refine (hH _).mono ?_
      rintro e w1 ⟨rfl, rfl⟩
      go_wp2_with fail
      refine (hS _).mono ?_
      rintro e w1 ⟨rfl, rfl⟩
      go_wp2_with fail
      go_ret
      exact ⟨rfl, rfl⟩
    · have g : ((n : Int) == (l.length : Int) + 1) = false := by rw [beq_eq_false_iff_ne]; omega
      have hr : (n == l.length + 1) = false := by rw [beq_eq_false_iff_ne]; exact hn
      rw [hr]
      clear hn hr
      go_enter Tryd.func78, Tryd.ntmps78
      go_wp2_with fail
      refine (hH _).mono ?_
      rintro e w1 ⟨rfl, rfl⟩
      go_wp2_with fail
      refine (hS _).mono ?_
      rintro e w1 ⟨rfl, rfl⟩
      go_wp2_with fail
      go_ret
      exact ⟨rfl, rfl⟩
set_option maxRecDepth 100000 in
set_option maxHeartbeats 2000000 in
theorem ahead_c (l : List UInt8) (w : World) (hs : l.length ≤ 1073741000) (hp : 0 < l.length) :
    Calls Tryd.prog 79 #[.string ⟨l.toArray⟩] w fun e w' => e = .returned (.bool (aheadM l)) ∧ w = w' := by
  unfold aheadM
  have hF := fun w => flow_c (byt l 0) w (byt_lt l 0)
  have hS := fun w => size0_c (33 :: 60 :: (l ++ [62])) w (by simp; omega)
  have hle : sizeM (33 :: 60 :: (l ++ [62])) ≤ 2147483647 := by have := sizeM_le (33 :: 60 :: (l ++ [62])); simp at this; omega
  generalize flowN (byt l 0) = b at *
  generalize sizeM (33 :: 60 :: (l ++ [62])) = n at *
  cases b with
  | true =>
    rw [Bool.not_true, Bool.false_and]
    go_enter Tryd.func79, Tryd.ntmps79
    go_wp2_with fail
    refine (hF _).mono ?_
    rintro e w1 ⟨rfl, rfl⟩
    go_wp2_with fail
    go_ret
    exact ⟨rfl, rfl⟩
  | false =>
    rw [Bool.not_false, Bool.true_and]
    by_cases hn : n = l.length + 3
    · have g : ((n : Int) == (l.length : Int) + 3) = true := by rw [beq_iff_eq]; omega
      have hr : (n == l.length + 3) = true := by rw [beq_iff_eq]; exact hn
      rw [hr]
      clear hn hr
      go_enter Tryd.func79, Tryd.ntmps79
      go_wp2_with fail
      refine (hF _).mono ?_
      rintro e w1 ⟨rfl, rfl⟩
      go_wp2_with fail
      refine (hS _).mono ?_
      rintro e w1 ⟨rfl, rfl⟩
      go_wp2_with fail
      go_ret
      exact ⟨rfl, rfl⟩
    · have g : ((n : Int) == (l.length : Int) + 3) = false := by rw [beq_eq_false_iff_ne]; omega
      have hr : (n == l.length + 3) = false := by rw [beq_eq_false_iff_ne]; exact hn
      rw [hr]
      clear hn hr
      go_enter Tryd.func79, Tryd.ntmps79
      go_wp2_with fail
      refine (hF _).mono ?_
      rintro e w1 ⟨rfl, rfl⟩
      go_wp2_with fail
      refine (hS _).mono ?_
      rintro e w1 ⟨rfl, rfl⟩
      go_wp2_with fail
      go_ret
      exact ⟨rfl, rfl⟩
end Go.Proofs.YtjnmgmepolpcdaaDoor
