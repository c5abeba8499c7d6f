/- Plain laws on how a scalar is told: what may stand plain, what may stand in rows, which style. -/
import Derived.Test.YtjfgcbikdibjeaaGreatDoorPRows
import Derived.Test.YtjfgcbikdibjeaaGreatDoorPEsca3
import Derived.Test.YtjfgcbikdibjeaaGreatDoorPCore
namespace Go.Proofs.YtjfgcbikdibjeaaGreatDoor
namespace U
open Go

/-! ### Plain scalars. -/
def stopsN (l : List UInt8) (p : Nat) (flow : Bool) : Bool := endsM l (p + 1) || (flow && flowN (byt l (p + 1)))
def indN (b : Nat) : Bool := decide (b = 45 ∨ b = 63 ∨ b = 58 ∨ b = 35 ∨ b = 38 ∨ b = 42 ∨ b = 33 ∨ b = 124 ∨ b = 62 ∨ b = 39 ∨ b = 34 ∨ b = 37 ∨ b = 64 ∨ b = 96) || flowN b
def beginsM (l : List UInt8) (p : Nat) (flow : Bool) : Bool := !endsM l p && (if byt l p = 45 ∨ byt l p = 63 ∨ byt l p = 58 then !stopsN l p flow else !indN (byt l p))
def cutsN (l : List UInt8) (p : Nat) (flow : Bool) : Bool := if byt l p = 35 then decide (0 < p) && whN (byt l (p - 1)) else if byt l p = 58 then stopsN l p flow else flow && flowN (byt l p)
/-- The first place from one on, and ahead of another, at which a part ends. -/
def partF (l : List UInt8) (flow : Bool) : Nat → Nat → Nat
  | 0, p => p
  | f + 1, p => if cutsN l p flow = true then p else partF l flow f (p + 1)
/-- Back over White. -/
def trimB (l : List UInt8) (a : Nat) : Nat → Nat
  | 0 => a
  | k + 1 => if whN (byt l (a + k)) = true then trimB l a k else a + k + 1
def partM (l : List UInt8) (p : Nat) (flow : Bool) : Nat := if p < l.length then trimB l p (partF l flow (rowTo l p - p) p - p) else p
def toldP (l : List UInt8) : Bool := (runes l).all printable && decide (place l < 0)
def preN (l : List UInt8) (c : Nat) : Bool := decide (3 ≤ l.length ∧ byt l 0 = c ∧ byt l 1 = c ∧ byt l 2 = c)
def plainM (l : List UInt8) (flow : Bool) : Bool :=
  beginsM l 0 flow && decide (partM l 0 flow = l.length) && (l.all fun b => decide (b ≠ 9 ∧ b ≠ 10)) && toldP l && !preN l 45 && !preN l 46
theorem partF_le (l : List UInt8) (flow : Bool) : ∀ f p, p ≤ partF l flow f p ∧ partF l flow f p ≤ p + f := by
  intro f
  induction f with
  | zero => intro p; exact ⟨Nat.le_refl _, Nat.le_refl _⟩
  | succ f ih =>
    intro p
    rw [partF]
    split
    · omega
    · have := ih (p + 1); omega
theorem trimB_le (l : List UInt8) (a : Nat) : ∀ k, a ≤ trimB l a k ∧ trimB l a k ≤ a + k := by
  intro k
  induction k with
  | zero => exact ⟨Nat.le_refl _, Nat.le_refl _⟩
  | succ k ih =>
    rw [trimB]
    split
    · omega
    · omega
theorem partM_le {l : List UInt8} {p : Nat} {flow : Bool} : p ≤ partM l p flow ∧ partM l p flow ≤ rowTo l p := by
  have hr := rowTo_ge l p
  unfold partM
  split
  · have h1 := partF_le l flow (rowTo l p - p) p
    have h2 := trimB_le l p (partF l flow (rowTo l p - p) p - p)
    omega
  · omega
/-! ### Rows as they are. -/
def splitB : List UInt8 → List UInt8 → List (List UInt8)
  | cur, [] => [cur]
  | cur, b :: t => if b = 10 then cur :: splitB [] t else splitB (cur ++ [b]) t
def trimLF (l : List UInt8) : List UInt8 := if l.getLast? = some 10 then l.dropLast else l
def rowsL (l : List UInt8) : List (List UInt8) := splitB [] (trimLF l)
def blankR (r : List UInt8) : Bool := !r.isEmpty && r.all wh
def literalM (l : List UInt8) : Bool :=
  !l.isEmpty && !whN (byt l 0) && decide (byt l 0 ≠ 10) && toldP l && (rowsL l).all (fun r => !blankR r) && !((rowsL l).getLast?.getD []).isEmpty
/-! ### Styles. -/
/-- A style: the text, its own style, tag or none; single quotes, bare; in brackets, in one row. -/
def styleM (t : List UInt8) (st : Nat) (tag single bare flow row : Bool) : Nat :=
  if st = 1 ∧ (t = [] ∨ plainM t flow = true) then 1
  else if (st = 4 ∨ st = 5) ∧ row = false ∧ literalM t = true then 4
  else if bare = true ∧ st ≠ 1 ∧ tag = false ∧ plainM t flow = true ∧ coreP t = wStr then 1
  else if single = true ∧ singleM t = true then 2
  else 3
def showP (t : List UInt8) (st : Nat) (tag single bare flow : Bool) : List UInt8 :=
  if styleM t st tag single bare flow true = 1 then t else quoteM t (decide (styleM t st tag single bare flow true = 2))
/-! ### What every program answers. -/
theorem awakeP : plainM [97, 44, 32, 98] false = true ∧ plainM [97, 44, 32, 98] true = false ∧ plainM [97, 58, 32, 98] false = false ∧ literalM [97, 10] = true ∧ literalM [32, 97] = false ∧
    styleM [98] 2 false false false false true = 3 ∧ showP [98] 2 false false true false = [98] := by decide +kernel
/-- PickRows' texts. -/
def rowsText (t : List UInt8) : List (List UInt8) := [t, t ++ [10], t ++ [10, 10] ++ t, t ++ [10, 32] ++ t, t ++ [10, 9] ++ t ++ [10], t ++ [32, 10] ++ t, [35, 32] ++ t, [45, 32] ++ t ++ [10, 45, 45, 45, 10], [], [32] ++ t, [10] ++ t, [9] ++ t, t ++ [10, 10], t ++ [10, 32, 10] ++ t, t ++ [10, 32], t ++ [10, 9], t ++ [1], t ++ [133]]
def wordsP : List (List UInt8) := [[97], [98, 99], [100, 45, 101], [102, 95, 103], [104, 49], [120, 121, 122], [195, 169], [107, 35, 108], [109, 58, 110], [111, 46, 112]]
theorem rowsText_all : ∀ t ∈ wordsP, ∀ k, k < 18 → literalM ((rowsText t).getD k []) = decide (k < 8) ∧ ((rowsText t).getD k []).length ≤ 20 := by decide +kernel
end U
end Go.Proofs.YtjfgcbikdibjeaaGreatDoor
