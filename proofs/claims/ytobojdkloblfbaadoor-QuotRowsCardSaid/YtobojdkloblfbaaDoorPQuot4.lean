/- Plain laws: rows of words within quotes; what is wrong within quotes. -/
import Derived.Test.YtobojdkloblfbaaDoorPQuot3
namespace Go.Proofs.YtobojdkloblfbaaDoor
namespace U
open Go

def wordsQ : List (List UInt8) := [[97], [98, 99], [100, 45, 101], [102, 95, 103], [104, 49], [120, 121, 122], [195, 169], [107, 35, 108], [109, 58, 110], [111, 46, 112]]
theorem wordsQ_all : ∀ x ∈ wordsQ, x ≠ [] ∧ cutW (x ++ [32, 9, 32]) = x ∧ cutW x = x ∧ whN (byt x 0) = false ∧ (x.all fun b => decide (b.toNat ≠ 10 ∧ b.toNat ≠ 34 ∧ b.toNat ≠ 92)) = true := by decide +kernel
theorem wordsQ_calm {x : List UInt8} (h : x ∈ wordsQ) : ∀ y ∈ x, calmQ 34 y := by
  intro y hy
  have := of_decide_eq_true (List.all_eq_true.1 (wordsQ_all x h).2.2.2.2 y hy)
  exact ⟨this.1, this.2.1, fun h => this.2.2 h.1⟩
theorem byt_first {x t : List UInt8} (h : x ≠ []) : byt (x ++ t) 0 = byt x 0 := byt_append_left _ _ _ (List.length_pos_iff.2 h)
section
variable (w : Nat → List UInt8) (g inn : Nat → Nat) (on wt : Nat → Bool)
def txsQ (m : Nat) : List UInt8 := (List.range m).flatMap fun j => itemTx (w j) (g j) (inn j) (on j) (wt j)
def wantsQ (m : Nat) : List UInt8 := (List.range m).flatMap fun j => w j ++ if on j then List.replicate (g j) 10 else gapQ (g j)
def rwsQ (m : Nat) : List QR := (List.range m).flatMap fun j => (w j, 0, on j) :: List.replicate (g j) newQ
theorem txsQ_succ (m : Nat) : txsQ w g inn on wt (m + 1) = txsQ w g inn on wt m ++ itemTx (w m) (g m) (inn m) (on m) (wt m) := by simp [txsQ, List.range_succ]
theorem wantsQ_succ (m : Nat) : wantsQ w g on (m + 1) = wantsQ w g on m ++ (w m ++ if on m then List.replicate (g m) 10 else gapQ (g m)) := by simp [wantsQ, List.range_succ]
theorem rwsQ_succ (m : Nat) : rwsQ w g on (m + 1) = rwsQ w g on m ++ (w m, 0, on m) :: List.replicate (g m) newQ := by simp [rwsQ, List.range_succ]
theorem rows_go (hw : ∀ i, w i ∈ wordsQ) (hg : ∀ i, g i < 3) : ∀ (m : Nat) (t : List UInt8), t ≠ [] → whN (byt t 0) = false →
    Re ([34] ++ txsQ w g inn on wt m ++ t) 0 34 1 [] newQ (1 + (txsQ w g inn on wt m).length) (rwsQ w g on m) newQ := by
  intro m
  induction m with
  | zero => intro t _ _; exact Re.refl
  | succ m ih =>
    intro t ht h0
    obtain ⟨h1, h2, h3, h4, _⟩ := wordsQ_all _ (hw m)
    have hne : itemTx (w m) (g m) (inn m) (on m) (wt m) ++ t ≠ [] := by simp [ht]
    have hb : whN (byt (itemTx (w m) (g m) (inn m) (on m) (wt m) ++ t) 0) = false := by
      unfold itemTx
      rw [List.append_assoc, byt_first h1]
      exact h4
    have s1 := ih _ hne hb
    have s2 := re_item (rwsQ w g on m) ([34] ++ txsQ w g inn on wt m) (w m) t (g m) (inn m) (on m) (wt m) (hg m) (wordsQ_calm (hw m)) h2 h3 ht h0
    rw [txsQ_succ, rwsQ_succ]
    have e : [34] ++ (txsQ w g inn on wt m ++ itemTx (w m) (g m) (inn m) (on m) (wt m)) ++ t = [34] ++ txsQ w g inn on wt m ++ (itemTx (w m) (g m) (inn m) (on m) (wt m) ++ t) := by simp
    have e2 : [34] ++ txsQ w g inn on wt m ++ itemTx (w m) (g m) (inn m) (on m) (wt m) ++ t = [34] ++ txsQ w g inn on wt m ++ (itemTx (w m) (g m) (inn m) (on m) (wt m) ++ t) := by simp
    have e3 : ([34] ++ txsQ w g inn on wt m).length = 1 + (txsQ w g inn on wt m).length := by simp; omega
    rw [e2, e3] at s2
    rw [e, List.length_append, ← Nat.add_assoc]
    exact s1.trans s2
theorem rws_is (m : Nat) (last : List UInt8) : rwsQ w g on m ++ [(last, 0, false)] = rowsOf ((List.range m).map fun j => (w j, g j, on j)) last := by
  unfold rwsQ rowsOf
  rw [List.flatMap_map]
theorem wants_is (m : Nat) (last : List UInt8) : wantsQ w g on m ++ last = textOf ((List.range m).map fun j => (w j, g j, on j)) last := by
  unfold wantsQ textOf
  rw [List.flatMap_map]
theorem rws_len (m : Nat) : m ≤ (rwsQ w g on m).length := by
  induction m with
  | zero => exact Nat.zero_le _
  | succ m ih => rw [rwsQ_succ, List.length_append, List.length_cons]; omega
theorem rows_read (hw : ∀ i, w i ∈ wordsQ) (hg : ∀ i, g i < 3) (m : Nat) :
    quotM ([34] ++ txsQ w g inn on wt m ++ (w m ++ [34])) 0 0 = (wantsQ w g on m ++ w m, (([34] ++ txsQ w g inn on wt m ++ (w m ++ [34])).length : Int), decide (m = 0), 0) := by
  obtain ⟨h1, h2, h3, h4, _⟩ := wordsQ_all _ (hw m)
  have s1 := rows_go w g inn on wt hw hg m (w m ++ [34]) (by simp) (by rw [byt_first h1]; exact h4)
  have s2 := re_bytes 0 34 (rwsQ w g on m) [34] (w m) ([34] ++ txsQ w g inn on wt m) [] 0 false (wordsQ_calm (hw m))
  have e2 : [34] ++ txsQ w g inn on wt m ++ w m ++ [34] = [34] ++ txsQ w g inn on wt m ++ (w m ++ [34]) := by simp
  have e3 : ([34] ++ txsQ w g inn on wt m).length = 1 + (txsQ w g inn on wt m).length := by simp; omega
  rw [e2, e3] at s2
  have s := s1.trans s2
  generalize hT : [34] ++ txsQ w g inn on wt m ++ (w m ++ [34]) = T at *
  have hlen : T.length = 1 + (txsQ w g inn on wt m).length + (w m).length + 1 := by rw [← hT]; simp; omega
  have hbe : byt T (1 + (txsQ w g inn on wt m).length + (w m).length) = 34 := by
    have := byt_at ([34] ++ txsQ w g inn on wt m ++ w m) [34] 0
    rw [Nat.add_zero, List.length_append, e3, e2] at this
    rw [this]; rfl
  have hb0 : byt T 0 = 34 := by rw [← hT]; rfl
  have hsc := sc_is (s _ (sc_done (by rw [hlen]; omega) (by rw [hbe]; decide) hbe (by omega))) (by omega)
  unfold quotM
  rw [if_neg (by rw [hlen, show (0 : Int).toNat = 0 from rfl, hb0]; omega), show (0 : Int).toNat = 0 from rfl, hb0, hsc]
  show (if (0 : Int) = 0 then (joinQ (rwsQ w g on m ++ [([] ++ w m, 0, false)]), ((1 + (txsQ w g inn on wt m).length + (w m).length + 1 : Nat) : Int), decide ((rwsQ w g on m ++ [([] ++ w m, 0, false)]).length = 1), (0 : Int)) else _) = _
  rw [if_pos rfl, List.nil_append, rws_is, join_items _ _ h1 (by
    intro x hx
    obtain ⟨j, _, rfl⟩ := List.mem_map.1 hx
    exact (wordsQ_all _ (hw j)).1), ← wants_is, ← rws_is]
  refine Prod.ext rfl (Prod.ext ?_ (Prod.ext ?_ rfl))
  · simp only; omega
  · have hz : rwsQ w g on 0 = [] := rfl
    have hl := rws_len w g on m
    simp only [List.length_append, List.length_singleton]
    rcases Nat.eq_zero_or_pos m with h0 | h0
    · subst h0; rw [hz]; rfl
    · rw [decide_eq_false (by omega), decide_eq_false (by omega)]
end
/-! ### What is wrong. -/
def wrongQ (k : Nat) (single : Bool) : List UInt8 := (if single then [39] else [34]) ++ [119] ++ (List.replicate k [10, 32, 32, 32, 119]).flatten
def wrongTx (which k : Nat) (single : Bool) : List UInt8 × Int × Nat :=
  let q := if single then [39] else [34]
  let s := wrongQ k single
  match which with
  | 0 => (s ++ [10, 32, 32, 119] ++ q, 2, s.length + 3)
  | 1 => (s ++ [10, 45, 45, 45, 32, 119] ++ q, -1, s.length + 1)
  | 2 => (s ++ [10, 46, 46, 46] ++ q ++ q, 0, s.length + 1)
  | 3 => (s ++ [10, 32, 32, 32, 119], 2, s.length + 5)
  | _ => (s ++ [92, 113] ++ q, 2, s.length)
def wrongOk (single : Bool) (which k : Nat) : Bool := (decide (which = 4) && single) || decide (quotM (wrongTx which k single).1 0 (wrongTx which k single).2.1 = ([], ((wrongTx which k single).2.2 : Int), false, 5))
theorem wrong_ok : ∀ single : Bool, ∀ which, which < 5 → ∀ k, k < 4 → wrongOk single which k = true := by decide +kernel
theorem wrong_all {single : Bool} {which k : Nat} (h5 : which < 5) (h4 : k < 4) (hs : which = 4 → single = false) : quotM (wrongTx which k single).1 0 (wrongTx which k single).2.1 = ([], ((wrongTx which k single).2.2 : Int), false, 5) := by
  have := wrong_ok single which h5 k h4
  unfold wrongOk at this
  rw [Bool.or_eq_true, Bool.and_eq_true] at this
  rcases this with h | h
  · have := hs (of_decide_eq_true h.1)
    rw [this] at h
    cases h.2
  · exact of_decide_eq_true h
def awQ1 : List UInt8 := [39, 97, 39, 39, 98, 39]
def awQ2 : List UInt8 := [34, 97, 32, 92, 10, 32, 98, 34]
theorem awakeQ1 : quotM awQ1 0 (-1) = ([97, 39, 98], 6, true, 0) := by decide +kernel
theorem awakeQ2 : quotM awQ2 0 (-1) = ([97, 32, 98], 8, false, 0) := by decide +kernel
end U
end Go.Proofs.YtobojdkloblfbaaDoor
