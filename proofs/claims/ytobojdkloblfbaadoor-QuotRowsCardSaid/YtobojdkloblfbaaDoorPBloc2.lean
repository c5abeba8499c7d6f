/- Plain laws on block scalars: their headers; rows made one text. -/
import Derived.Test.YtobojdkloblfbaaDoorPBloc
namespace Go.Proofs.YtobojdkloblfbaaDoor
namespace U
open Go

/-! ### Rows made one text. -/
def sepM (last row : List UInt8) (b : Nat) : List UInt8 :=
  if last = [] then List.replicate b 10 else if whN (byt last 0) = true ∨ whN (byt row 0) = true then List.replicate (b + 1) 10 else if b = 0 then [32] else List.replicate b 10
def foldB : List (List UInt8) → List UInt8 → Nat → List UInt8
  | [], last, b => List.replicate (if last = [] then b - 1 else b) 10
  | row :: t, last, b => if row = [] then foldB t last (b + 1) else sepM last row b ++ row ++ foldB t row 0
def joinB : List (List UInt8) → List UInt8
  | [] => []
  | [x] => x
  | x :: t => x ++ [10] ++ joinB t
def blockM (rows : List (List UInt8)) (folded : Bool) : List UInt8 := if folded then foldB rows [] 0 else joinB rows
theorem sep_len (last row : List UInt8) (b : Nat) : (sepM last row b).length ≤ b + 1 := by
  unfold sepM
  split
  · simp
  · split
    · simp
    · split <;> simp
theorem foldB_len : ∀ (xs : List (List UInt8)) (last : List UInt8) (b : Nat), (foldB xs last b).length ≤ sumL xs + b
  | [], last, b => by
    unfold foldB
    rw [List.length_replicate]
    split <;> omega
  | x :: t, last, b => by
    rw [foldB, sumL_cons]
    split
    · have := foldB_len t last (b + 1)
      omega
    · have := foldB_len t x 0
      have := sep_len last x b
      simp only [List.length_append]
      omega
theorem joinB_len : ∀ (xs : List (List UInt8)), (joinB xs).length ≤ sumL xs
  | [] => by simp [joinB]
  | [x] => by simp [joinB, sumL]
  | x :: y :: t => by
    have := joinB_len (y :: t)
    rw [joinB, sumL_cons]
    · simp only [List.length_append, List.length_singleton]
      omega
    · simp
theorem blockM_len (xs : List (List UInt8)) (f : Bool) : (blockM xs f).length ≤ sumL xs := by
  unfold blockM
  split
  · have := foldB_len xs [] 0; omega
  · exact joinB_len xs
theorem joinB_two (x y : List UInt8) (t : List (List UInt8)) : joinB (x :: y :: t) = x ++ [10] ++ joinB (y :: t) := rfl
theorem joinB_snoc : ∀ (xs : List (List UInt8)) (x : List UInt8), xs ≠ [] → joinB (xs ++ [x]) = joinB xs ++ [10] ++ x
  | [], _, h => absurd rfl h
  | [y], x, _ => rfl
  | y :: z :: t, x, _ => by
    have ih := joinB_snoc (z :: t) x (by simp)
    rw [List.cons_append, List.cons_append, joinB_two, joinB_two, ← List.cons_append, ih]
    simp
theorem sumL_take (xs : List (List UInt8)) (k : Nat) : sumL (xs.take k) ≤ sumL xs := by
  induction xs generalizing k with
  | nil => simp
  | cons x xs ih =>
    cases k with
    | zero => simp [sumL]
    | succ k =>
      have := ih k
      rw [List.take_succ_cons, sumL_cons, sumL_cons]
      omega

/-! ### Headers. -/
abbrev Hd := Nat × Nat × Nat
def hdStep (l : List UInt8) (s : Hd) : Hd :=
  if s.1 = 0 ∧ 49 ≤ byt l s.2.2 ∧ byt l s.2.2 ≤ 57 then (byt l s.2.2 - 48, s.2.1, s.2.2 + 1)
  else if s.2.1 = 0 ∧ (byt l s.2.2 = 43 ∨ byt l s.2.2 = 45) then (s.1, byt l s.2.2, s.2.2 + 1)
  else s
def hdIter (l : List UInt8) : Nat → Hd → Hd
  | 0, s => s
  | k + 1, s => hdIter l k (hdStep l s)
def hdM (l : List UInt8) (p : Nat) : Hd := hdIter l 2 (0, 0, p)
theorem hdStep_is {l : List UInt8} {s : Hd} (h : s.2.2 ≤ l.length) (h1 : s.1 ≤ 9) (h2 : s.2.1 = 0 ∨ s.2.1 = 43 ∨ s.2.1 = 45) :
    s.2.2 ≤ (hdStep l s).2.2 ∧ (hdStep l s).2.2 ≤ l.length ∧ (hdStep l s).1 ≤ 9 ∧ ((hdStep l s).2.1 = 0 ∨ (hdStep l s).2.1 = 43 ∨ (hdStep l s).2.1 = 45) ∧
    ∀ j, s.2.2 ≤ j → j < (hdStep l s).2.2 → byt l j ≠ 10 := by
  have hb : byt l s.2.2 ≠ 0 → s.2.2 < l.length := fun hn => by
    rcases Nat.lt_or_ge s.2.2 l.length with h' | h'
    · exact h'
    · exact absurd (byt_ge _ _ h') hn
  unfold hdStep
  split
  · rename_i hc
    have := hb (by omega)
    refine ⟨Nat.le_succ _, by simp only []; omega, by simp only []; omega, h2, fun j a b => ?_⟩
    simp only [] at b
    rw [show j = s.2.2 by omega]
    omega
  · split
    · rename_i hc
      have := hb (by omega)
      refine ⟨Nat.le_succ _, by simp only []; omega, h1, .inr hc.2, fun j a b => ?_⟩
      simp only [] at b
      rw [show j = s.2.2 by omega]
      omega
    · exact ⟨Nat.le_refl _, h, h1, h2, fun j a b => by omega⟩
theorem hdM_is {l : List UInt8} {p : Nat} (h : p ≤ l.length) : p ≤ (hdM l p).2.2 ∧ (hdM l p).2.2 ≤ l.length ∧ (hdM l p).1 ≤ 9 ∧ ((hdM l p).2.1 = 0 ∨ (hdM l p).2.1 = 43 ∨ (hdM l p).2.1 = 45) ∧
    rowTo l (hdM l p).2.2 = rowTo l p := by
  have h1 := hdStep_is (l := l) (s := (0, 0, p)) h (Nat.zero_le _) (.inl rfl)
  have h2 := hdStep_is (l := l) (s := hdStep l (0, 0, p)) h1.2.1 h1.2.2.1 h1.2.2.2.1
  refine ⟨Nat.le_trans h1.1 h2.1, h2.2.1, h2.2.2.1, h2.2.2.2.1, ?_⟩
  refine rowTo_same (Nat.le_trans h1.1 h2.1) h2.2.1 fun j a b => ?_
  rcases Nat.lt_or_ge j (hdStep l (0, 0, p)).2.2 with hj | hj
  · exact h1.2.2.2.2 j a hj
  · exact h2.2.2.2.2 j hj b

/-! ### What is read. -/
/-- A node that is a scalar: its kind, its style, its place, whether a comment stands behind it, that, its text. -/
structure BN where
  kind : Nat
  style : Nat
  at' : Int
  has : Bool
  trail : List UInt8
  text : List UInt8
def BN.zero : BN := ⟨0, 0, 0, false, [], []⟩
abbrev Bl := BN × Int × Nat
def feedsM (keep full feeds : Nat) : Nat := if keep = 45 then 0 else if keep = 0 then (if full = 0 then 0 else min feeds 1) else feeds
def toldM (rows : List (List UInt8)) (feeds : Nat) (folded : Bool) (keep : Nat) : List UInt8 := blockM rows folded ++ List.replicate (feedsM keep rows.length feeds) 10
def widthM (l : List UInt8) (b : Nat) (n : Int) : Nat :=
  if frontM l b < l.length ∧ markB l (frontM l b) = false ∧ n < (inM l (frontM l b) : Int) then inM l (frontM l b) else l.length
/-- Behind a header: where the rows begin; the digit, or 0; the column around. -/
def bodyW (l : List UInt8) (b d : Nat) (n : Int) : Nat := if d = 0 then widthM l b n else d + (min (max n 0) (l.length + 1)).toNat
def bodyToo (l : List UInt8) (b d : Nat) (n : Int) : Option Nat := if d = 0 then tooM l (widthM l b n) (frontM l b) b else none
def bodyM (l : List UInt8) (b d : Nat) (n : Int) : Went := goM l (bodyW l b d n) b [] 0 0
/-- Where a header ends; or what is wrong with it. -/
def hdEnd (l : List UInt8) (p : Nat) : Nat := (hdM l p).2.2 + run whN l (hdM l p).2.2
def hdBad (l : List UInt8) (p : Nat) : Bool := decide (hdEnd l p < rowTo l p ∧ (byt l (hdEnd l p) ≠ 35 ∨ hdEnd l p = (hdM l p).2.2))
def hdHas (l : List UInt8) (p : Nat) : Bool := decide (hdEnd l p < rowTo l p)
def hdTrail (l : List UInt8) (p : Nat) : List UInt8 := if hdHas l p then noteTx l (hdEnd l p) else []
def folds (l : List UInt8) (p : Nat) : Bool := decide (byt l p = 62)
def blocOf (l : List UInt8) (p : Nat) (n : Int) : Bl :=
  let b := min (rowTo l (p + 1) + 1) l.length
  let h := hdM l (p + 1)
  if hdBad l (p + 1) then (.zero, hdEnd l (p + 1), 5)
  else match bodyToo l b h.1 n with
    | some q => (.zero, q, 5)
    | none =>
      let r := bodyM l b h.1 n
      (⟨1, if folds l p then 5 else 4, p, hdHas l (p + 1), hdTrail l (p + 1), toldM (r.1.take r.2.1) r.2.2.1 (folds l p) h.2.1⟩, r.2.2.2, 0)
def startB (l : List UInt8) (a : Int) : Bool := decide (0 ≤ a ∧ a < l.length ∧ (byt l a.toNat = 124 ∨ byt l a.toNat = 62))
def blocM (l : List UInt8) (a n : Int) : Bl := if startB l a then blocOf l a.toNat n else (.zero, a, 5)
/-- The rows' beginning. -/
theorem st_begin {l : List UInt8} {p : Nat} : St l (min (rowTo l p + 1) l.length) := st_next l p
/-- A width past all rows. -/
theorem text_far {l : List UInt8} {w p : Nat} (hp : p ≤ l.length) (h : l.length ≤ w) : textB l w p = [] := by
  have := textB_len (w := w) hp
  have := rowTo_le hp
  exact List.length_eq_zero_iff.1 (by omega)
theorem ok_far {l : List UInt8} {w w' p : Nat} (hp : p < l.length) (h : l.length ≤ w) (h' : l.length ≤ w') : okB l w p = okB l w' p := by
  have h1 := in_le (Nat.le_of_lt hp)
  have h2 := rowTo_le (Nat.le_of_lt hp)
  unfold okB
  rcases Nat.lt_or_ge (inM l p) l.length with h3 | h3
  · rw [decide_eq_false (by omega), decide_eq_false (by omega)]
  · have hb : blankB l p = true := by rw [blank_in (Nat.le_of_lt hp)]; exact decide_eq_true (by omega)
    rw [hb]; rfl
theorem go_far {l : List UInt8} {w w' : Nat} (h : l.length ≤ w) (h' : l.length ≤ w') : ∀ (d p : Nat) (acc : List (List UInt8)) (full feeds : Nat), l.length - p ≤ d →
    goM l w p acc full feeds = goM l w' p acc full feeds := by
  intro d
  induction d with
  | zero => intro p acc full feeds hd; rw [go_stop (by omega), go_stop (by omega)]
  | succ d ih =>
    intro p acc full feeds hd
    by_cases hp : p < l.length
    · have hg := next_gt hp
      by_cases hc : okB l w p = true
      · rw [go_go hp hc, go_go hp (ok_far hp h h' ▸ hc), text_far (Nat.le_of_lt hp) h, text_far (Nat.le_of_lt hp) h']
        exact ih _ _ _ _ (by omega)
      · rw [go_stop (fun x => hc x.2), go_stop (fun x => hc (ok_far hp h h' ▸ x.2))]
    · rw [go_stop (fun x => hp x.1), go_stop (fun x => hp x.1)]
theorem too_far {l : List UInt8} {w e : Nat} (h : l.length ≤ w) (he : e ≤ l.length) : ∀ (d k : Nat), l.length - k ≤ d → tooM l w e k = none := by
  intro d
  induction d with
  | zero => intro k hd; exact too_end (by omega)
  | succ d ih =>
    intro k hd
    rcases Nat.lt_or_ge k e with hk | hk
    · have := next_gt (l := l) (p := k) (by omega)
      have := rowTo_le (l := l) (p := k) (by omega)
      rw [too_go he hk, if_neg (by omega)]
      exact ih _ (by omega)
    · exact too_end hk
