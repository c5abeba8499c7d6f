/- Plain laws on escapes: quoted texts. -/
import Derived.Test.YtjfgcbikdibjeaaGreatDoorPEsca2
namespace Go.Proofs.YtjfgcbikdibjeaaGreatDoor
namespace U
open Go

def okR (r : Int) : Bool := printable r && decide (r ≠ 10)
def singleM (l : List UInt8) : Bool := decide (place l < 0) && (runes l).all okR
def dbl (l : List UInt8) : List UInt8 := l.flatMap fun b => if b = 39 then [39, 39] else [b]
def showsM (rs : List Int) : List UInt8 := rs.flatMap showM
def quoteM (l : List UInt8) (single : Bool) : List UInt8 := if single && singleM l then [39] ++ dbl l ++ [39] else [34] ++ showsM (runes l) ++ [34]
def quoteQ (l : List UInt8) (single : Bool) : UInt8 := if single && singleM l then 39 else 34
theorem quote_ends (l : List UInt8) (s : Bool) : ∃ m, quoteM l s = [quoteQ l s] ++ m ++ [quoteQ l s] := by
  unfold quoteM quoteQ
  split
  · exact ⟨_, rfl⟩
  · exact ⟨_, rfl⟩
theorem showsM_cons (r : Int) (rs : List Int) : showsM (r :: rs) = showM r ++ showsM rs := by simp [showsM]
theorem dbl_cons (b : UInt8) (l : List UInt8) : dbl (b :: l) = (if b = 39 then [39, 39] else [b]) ++ dbl l := by simp [dbl]
theorem dbl_append (a b : List UInt8) : dbl (a ++ b) = dbl a ++ dbl b := by simp [dbl]
def scalarI (r : Int) : Prop := 0 ≤ r ∧ r ≤ 1114111 ∧ ¬ (55296 ≤ r ∧ r ≤ 57343)
theorem runes_scalar (l : List UInt8) : ∀ r ∈ runes l, scalarI r := by
  intro r hr
  rw [← runes_fix l] at hr
  obtain ⟨x, _, rfl⟩ := List.mem_map.1 hr
  exact fixr_scalar x
/-! ### What is told may be told. -/
theorem ascii_enc : ∀ m : List UInt8, (∀ b ∈ m, b.toNat < 128) → enc (m.map fun b => (b.toNat : Int)) = m := by
  intro m
  induction m with
  | nil => intro _; rfl
  | cons b m ih =>
    intro h
    rw [List.map_cons, enc_cons, ih (fun x hx => h x (by simp [hx]))]
    have hb := h b (by simp)
    have e : Lib.encodeRune (b.toNat : Int) = [b] := by
      unfold Lib.encodeRune
      rw [Lib.encodeRuneZ_one (by omega) (by omega)]
      simp
    rw [e]; rfl
theorem single_enc {xs : List Int} (h : ∀ x ∈ xs, scalarI x ∧ okR x = true) : singleM (enc xs) = true := by
  unfold singleM
  rw [place_enc, runes_enc, Bool.and_eq_true]
  refine ⟨by decide, List.all_eq_true.2 fun y hy => ?_⟩
  obtain ⟨x, hx, rfl⟩ := List.mem_map.1 hy
  obtain ⟨⟨h0, h1, h2⟩, h3⟩ := h x hx
  rw [fixr_same h0 h1 h2]
  exact h3
/-- What is told in ASCII. -/
theorem plain_ok : ∀ b : UInt8, 32 ≤ b.toNat → b.toNat ≤ 126 → scalarI (b.toNat : Int) ∧ okR (b.toNat : Int) = true := by
  intro b h1 h2
  refine ⟨⟨by omega, by omega, by omega⟩, ?_⟩
  unfold okR printable
  rw [Bool.and_eq_true]
  exact ⟨decide_eq_true (by omega), decide_eq_true (by omega)⟩
theorem hexC_plain : ∀ d, d < 16 → 48 ≤ (hexC d).toNat ∧ (hexC d).toNat ≤ 102 := by decide
theorem hexE_plain : ∀ (k n : Nat), ∀ b ∈ hexE k n, 32 ≤ b.toNat ∧ b.toNat ≤ 126 := by
  intro k
  induction k with
  | zero => intro n b hb; cases hb
  | succ k ih =>
    intro n b hb
    rw [hexE] at hb
    rcases List.mem_append.1 hb with hb | hb
    · exact ih _ b hb
    · obtain rfl : b = hexC (n % 16) := by simpa using hb
      have := hexC_plain (n % 16) (by omega)
      omega
theorem coded_plain (n : Nat) : ∀ b ∈ codedM n, 32 ≤ b.toNat ∧ b.toNat ≤ 126 := by
  have key : ∀ (c : UInt8) (k : Nat), 32 ≤ c.toNat → c.toNat ≤ 126 → ∀ b ∈ [92, c] ++ hexE k n, 32 ≤ b.toNat ∧ b.toNat ≤ 126 := by
    intro c k h1 h2 b hb
    rcases List.mem_append.1 hb with hb | hb
    · rcases List.mem_cons.1 hb with rfl | hb
      · decide
      · obtain rfl : b = c := by simpa using hb
        exact ⟨h1, h2⟩
    · exact hexE_plain k n b hb
  unfold codedM
  split
  · exact key 120 2 (by decide) (by decide)
  · split
    · exact key 117 4 (by decide) (by decide)
    · exact key 85 8 (by decide) (by decide)
theorem let_plain (r : Int) : ∀ b ∈ letM r, 32 ≤ b.toNat ∧ b.toNat ≤ 126 := by
  unfold letM
  repeat' split
  all_goals decide
theorem show_enc (r : Int) (hr : scalarI r) : ∃ xs, showM r = enc xs ∧ ∀ x ∈ xs, scalarI x ∧ okR x = true := by
  have key : ∀ m : List UInt8, (∀ b ∈ m, 32 ≤ b.toNat ∧ b.toNat ≤ 126) → ∃ xs, m = enc xs ∧ ∀ x ∈ xs, scalarI x ∧ okR x = true := by
    intro m hm
    refine ⟨_, (ascii_enc m (fun b hb => by have := hm b hb; omega)).symm, fun x hx => ?_⟩
    obtain ⟨b, hb, rfl⟩ := List.mem_map.1 hx
    exact plain_ok b (hm b hb).1 (hm b hb).2
  have hf := fixr_same hr.1 hr.2.1 hr.2.2
  unfold showM
  rw [hf]
  by_cases hl : letM r ≠ []
  · rw [if_pos hl]; exact key _ (let_plain r)
  · rw [if_neg hl]
    have hl := Classical.not_not.1 hl
    by_cases hp : printable r = true
    · rw [if_pos hp]
      refine ⟨[r], by simp [enc], fun x hx => ?_⟩
      obtain rfl : x = r := by simpa using hx
      refine ⟨hr, ?_⟩
      unfold okR
      rw [hp]
      have : x ≠ 10 := by rintro rfl; revert hl; decide
      simp [this]
    · rw [if_neg hp]; exact key _ (coded_plain _)
theorem shows_enc : ∀ rs : List Int, (∀ r ∈ rs, scalarI r) → ∃ xs, showsM rs = enc xs ∧ ∀ x ∈ xs, scalarI x ∧ okR x = true := by
  intro rs
  induction rs with
  | nil => intro _; exact ⟨[], rfl, by simp⟩
  | cons r rs ih =>
    intro h
    obtain ⟨xs, h1, h2⟩ := show_enc r (h r (by simp))
    obtain ⟨ys, h3, h4⟩ := ih (fun x hx => h x (by simp [hx]))
    refine ⟨xs ++ ys, by rw [showsM_cons, enc_append, h1, h3], fun x hx => ?_⟩
    rcases List.mem_append.1 hx with hx | hx
    · exact h2 x hx
    · exact h4 x hx
theorem dbl_id : ∀ {m : List UInt8}, (∀ b ∈ m, b ≠ 39) → dbl m = m := by
  intro m
  induction m with
  | nil => intro _; rfl
  | cons b m ih =>
    intro h
    rw [dbl_cons, if_neg (h b (by simp)), ih (fun x hx => h x (by simp [hx]))]; rfl
theorem dbl_enc : ∀ rs : List Int, (∀ r ∈ rs, scalarI r ∧ okR r = true) → ∃ xs, dbl (enc rs) = enc xs ∧ ∀ x ∈ xs, scalarI x ∧ okR x = true := by
  intro rs
  induction rs with
  | nil => intro _; exact ⟨[], rfl, by simp⟩
  | cons r rs ih =>
    intro h
    obtain ⟨hr, ho⟩ := h r (by simp)
    obtain ⟨ys, h3, h4⟩ := ih (fun x hx => h x (by simp [hx]))
    have hone : dbl (Lib.encodeRune r) = enc (if r = 39 then [39, 39] else [r]) := by
      by_cases h39 : r = 39
      · subst h39; rfl
      · rw [if_neg h39, dbl_id, show enc [r] = Lib.encodeRune r by simp [enc]]
        intro b hb hb39
        subst hb39
        rcases encR_first hr.1 hr.2.1 hr.2.2 with ⟨h1, h2⟩ | ⟨h1, h2⟩
        · rw [h2] at hb
          have hb : (39 : UInt8) = r.toNat.toUInt8 := by simpa using hb
          have := congrArg UInt8.toNat hb
          rw [tn _ hr.1 (by omega)] at this
          exact h39 (by have e : (39 : UInt8).toNat = 39 := rfl; omega)
        · have := h2 39 hb
          revert this; decide
    refine ⟨(if r = 39 then [39, 39] else [r]) ++ ys, by rw [enc_cons, dbl_append, enc_append, hone, h3], fun x hx => ?_⟩
    rcases List.mem_append.1 hx with hx | hx
    · split at hx
      · obtain rfl : x = 39 := by simpa using hx
        exact plain_ok 39 (by decide) (by decide)
      · obtain rfl : x = r := by simpa using hx
        exact ⟨hr, ho⟩
    · exact h4 x hx
/-- A quoted text may be told, in one row. -/
theorem quote_single (l : List UInt8) (s : Bool) : singleM (quoteM l s) = true := by
  have hq : ∀ q : UInt8, q = 39 ∨ q = 34 → ∀ xs : List Int, (∀ x ∈ xs, scalarI x ∧ okR x = true) → singleM ([q] ++ enc xs ++ [q]) = true := by
    intro q hq xs hx
    have e : [q] ++ enc xs ++ [q] = enc ([(q.toNat : Int)] ++ xs ++ [(q.toNat : Int)]) := by
      rw [enc_append, enc_append]
      have : enc [(q.toNat : Int)] = [q] := ascii_enc [q] (by rcases hq with rfl | rfl <;> decide)
      rw [this]
    rw [e]
    have hqo := plain_ok q (by rcases hq with rfl | rfl <;> decide) (by rcases hq with rfl | rfl <;> decide)
    refine single_enc fun x hx2 => ?_
    rcases List.mem_append.1 hx2 with h | h
    · rcases List.mem_append.1 h with h | h
      · obtain rfl : x = (q.toNat : Int) := by simpa using h
        exact hqo
      · exact hx x h
    · obtain rfl : x = (q.toNat : Int) := by simpa using h
      exact hqo
  unfold quoteM
  split
  · rename_i h
    rw [Bool.and_eq_true] at h
    have hs := h.2
    unfold singleM at hs
    rw [Bool.and_eq_true] at hs
    have hp : place l = -1 := by have := place_ge l; have h1 := of_decide_eq_true hs.1; omega
    have he := enc_runes hp
    obtain ⟨xs, h1, h2⟩ := dbl_enc (runes l) (fun r hr => ⟨runes_scalar l r hr, List.all_eq_true.1 hs.2 r hr⟩)
    rw [he] at h1
    rw [h1]
    exact hq 39 (.inl rfl) xs h2
  · obtain ⟨xs, h1, h2⟩ := shows_enc (runes l) (runes_scalar l)
    rw [h1]
    exact hq 34 (.inr rfl) xs h2
/-! ### Each other quote is told. -/
/-- From a place on, within double quotes. -/
def GoodD (t : List UInt8) (i : Nat) : Prop := ∃ (mid : List UInt8) (rs : List Int), t.drop i = mid ++ showsM rs ++ [34] ∧ (∀ b ∈ mid, b ≠ 34 ∧ b ≠ 92) ∧ (∀ r ∈ rs, scalarI r)
theorem good_start (l : List UInt8) (s : Bool) (h : (s && singleM l) = false) : GoodD (quoteM l s) 1 := by
  refine ⟨[], runes l, ?_, by simp, runes_scalar l⟩
  unfold quoteM
  rw [h]
  rfl
theorem good_len {t : List UInt8} {i : Nat} (h : GoodD t i) : i < t.length := by
  obtain ⟨mid, rs, h1, _⟩ := h
  rcases Nat.lt_or_ge i t.length with h2 | h2
  · exact h2
  · rw [List.drop_eq_nil_of_le h2] at h1
    have := congrArg List.length h1
    simp at this
theorem good_step {t : List UInt8} {i : Nat} (h : GoodD t i) (hi : i + 1 < t.length) :
    (byt t i = 92 ∧ ∃ (v : Int) (n : Nat), escM t i = (v, (n : Int), 0) ∧ i < n ∧ n < t.length ∧ GoodD t n) ∨ (byt t i ≠ 92 ∧ byt t i ≠ 34 ∧ GoodD t (i + 1)) := by
  obtain ⟨mid, rs, h1, h2, h3⟩ := h
  have hb : byt t i = byt (mid ++ showsM rs ++ [34]) 0 := by rw [← h1, byt_drop, Nat.add_zero]
  cases mid with
  | cons b mid =>
    right
    obtain ⟨h4, h5⟩ := h2 b (by simp)
    have e : byt t i = b.toNat := by rw [hb]; rfl
    refine ⟨?_, ?_, mid, rs, ?_, fun x hx => h2 x (by simp [hx]), h3⟩
    · rw [e]; exact fun h => h5 (UInt8.toNat.inj h)
    · rw [e]; exact fun h => h4 (UInt8.toNat.inj h)
    · rw [← List.drop_drop, h1]; rfl
  | nil =>
    cases rs with
    | nil =>
      exfalso
      have := congrArg List.length h1
      rw [List.length_drop] at this
      simp [showsM] at this
      omega
    | cons r rs =>
      have hr := h3 r (by simp)
      have hta : t = t.take i ++ (showM r ++ (showsM rs ++ [34])) := by
        have e := (List.take_append_drop i t).symm
        rw [h1] at e
        rw [showsM_cons] at e
        simpa using e
      have htl : (t.take i).length = i := by rw [List.length_take]; omega
      have hd : t.drop i = showM r ++ (showsM rs ++ [34]) := by rw [h1, showsM_cons]; simp
      have hb0 : byt t i = byt (showM r ++ (showsM rs ++ [34])) 0 := by rw [← hd, byt_drop, Nat.add_zero]
      rcases show_back (t.take i) (showsM rs ++ [34]) r hr.1 hr.2.1 hr.2.2 with ⟨g1, g2, g3⟩ | ⟨g1, g2, g3, g4, g5, g6, _⟩
      · left
        rw [List.append_assoc, ← hta, htl] at g3
        refine ⟨?_, r, i + (showM r).length, g3, by omega, ?_, [], rs, ?_, by simp, fun x hx => h3 x (by simp [hx])⟩
        · rw [hb0, byt_append_left _ _ _ (by omega)]; exact g1
        · have := congrArg List.length hd
          rw [List.length_drop] at this
          simp at this
          omega
        · rw [← List.drop_drop, hd, List.drop_left]; rfl
      · right
        obtain ⟨b, m, hm⟩ : ∃ b m, showM r = b :: m := by
          cases hs : showM r with
          | nil => rw [hs] at g2; simp at g2
          | cons b m => exact ⟨b, m, rfl⟩
        have hall : ∀ x ∈ showM r, x ≠ 34 ∧ x ≠ 92 := by
          intro x hx
          rw [g3] at hx
          rcases encR_first hr.1 hr.2.1 hr.2.2 with ⟨k1, k2⟩ | ⟨k1, k2⟩
          · rw [k2] at hx
            obtain rfl : x = r.toNat.toUInt8 := by simpa using hx
            have ht := tn r hr.1 (by omega)
            constructor
            · intro he
              have := congrArg UInt8.toNat he
              rw [ht] at this
              have e : (34 : UInt8).toNat = 34 := rfl
              exact g5 (by omega)
            · intro he
              have := congrArg UInt8.toNat he
              rw [ht] at this
              have e : (92 : UInt8).toNat = 92 := rfl
              exact g6 (by omega)
          · have := k2 x hx
            constructor <;> (rintro rfl; revert this; decide)
        rw [hm] at hd hall hb0
        obtain ⟨h4, h5⟩ := hall b (by simp)
        have e : byt t i = b.toNat := by rw [hb0]; rfl
        refine ⟨?_, ?_, m, rs, ?_, fun x hx => hall x (by simp [hx]), fun x hx => h3 x (by simp [hx])⟩
        · rw [e]; exact fun h => h5 (UInt8.toNat.inj h)
        · rw [e]; exact fun h => h4 (UInt8.toNat.inj h)
        · rw [← List.drop_drop, hd]; simp
/-- From a place on, within single quotes. -/
def GoodS (t : List UInt8) (i : Nat) : Prop := ∃ m : List UInt8, t.drop i = dbl m ++ [39]
theorem goods_start (l : List UInt8) (s : Bool) (h : (s && singleM l) = true) : GoodS (quoteM l s) 1 := by
  refine ⟨l, ?_⟩
  unfold quoteM
  rw [h]
  rfl
theorem goods_step {t : List UInt8} {i : Nat} (h : GoodS t i) (hi : i + 1 < t.length) :
    (byt t i = 39 ∧ i + 2 < t.length ∧ byt t (i + 1) = 39 ∧ GoodS t (i + 2)) ∨ (byt t i ≠ 39 ∧ GoodS t (i + 1)) := by
  obtain ⟨m, h1⟩ := h
  cases m with
  | nil =>
    exfalso
    have := congrArg List.length h1
    rw [List.length_drop] at this
    simp [dbl] at this
    omega
  | cons b m =>
    rw [dbl_cons] at h1
    by_cases h39 : b = 39
    · left
      rw [if_pos h39] at h1
      have hl := congrArg List.length h1
      rw [List.length_drop] at hl
      simp at hl
      refine ⟨?_, by omega, ?_, m, ?_⟩
      · have := byt_drop t i 0; rw [h1, Nat.add_zero] at this; exact this.symm
      · have := byt_drop t i 1; rw [h1] at this; exact this.symm
      · rw [← List.drop_drop, h1]; rfl
    · right
      rw [if_neg h39] at h1
      refine ⟨?_, m, ?_⟩
      · have := byt_drop t i 0
        rw [h1, Nat.add_zero] at this
        rw [← this]
        exact fun h => h39 (UInt8.toNat.inj h)
      · rw [← List.drop_drop, h1]; rfl
theorem goods_len {t : List UInt8} {i : Nat} (h : GoodS t i) : i < t.length := by
  obtain ⟨m, h1⟩ := h
  rcases Nat.lt_or_ge i t.length with h2 | h2
  · exact h2
  · rw [List.drop_eq_nil_of_le h2] at h1
    have := congrArg List.length h1
    simp at this
theorem show_le (r : Int) : (showM r).length ≤ 10 := by
  unfold showM
  split
  · unfold letM
    repeat' split
    all_goals decide
  · split
    · have := encR_le (fixr r); omega
    · unfold codedM
      split
      · simp [hexE_length]
      · split <;> simp [hexE_length]
theorem shows_le (rs : List Int) : (showsM rs).length ≤ 10 * rs.length := by
  induction rs with
  | nil => simp [showsM]
  | cons r rs ih =>
    rw [showsM_cons, List.length_append, List.length_cons]
    have := show_le r
    omega
theorem dbl_le (l : List UInt8) : (dbl l).length ≤ 2 * l.length := by
  induction l with
  | nil => simp [dbl]
  | cons b l ih =>
    rw [dbl_cons, List.length_append, List.length_cons]
    split <;> simp <;> omega
theorem quote_le (l : List UInt8) (s : Bool) : (quoteM l s).length ≤ 10 * l.length + 2 := by
  unfold quoteM
  split
  · have := dbl_le l; simp; omega
  · have := shows_le (runes l)
    rw [runes_length] at this
    have := width_le l
    simp; omega
end U
end Go.Proofs.YtjfgcbikdibjeaaGreatDoor
