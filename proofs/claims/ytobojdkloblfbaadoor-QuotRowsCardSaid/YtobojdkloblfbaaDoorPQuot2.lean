/- Plain law: what is quoted is read as it was. -/
import Derived.Test.YtobojdkloblfbaaDoorPQuot
import Derived.Test.YtobojdkloblfbaaDoorPEsca3
namespace Go.Proofs.YtobojdkloblfbaaDoor
namespace U
open Go

/-- From one state of the reader to a later one. -/
def Re (l : List UInt8) (n : Int) (q p : Nat) (es : List QR) (c : QR) (p' : Nat) (es' : List QR) (c' : QR) : Prop := ∀ R, Sc l n q p' es' c' R → Sc l n q p es c R
theorem Re.refl {l : List UInt8} {n : Int} {q p : Nat} {es : List QR} {c : QR} : Re l n q p es c p es c := fun _ h => h
theorem Re.trans {l : List UInt8} {n : Int} {q p p' p'' : Nat} {es es' es'' : List QR} {c c' c'' : QR} (h : Re l n q p es c p' es' c') (h' : Re l n q p' es' c' p'' es'' c'') : Re l n q p es c p'' es'' c'' := fun R hR => h R (h' R hR)
def calmQ (q : Nat) (b : UInt8) : Prop := b.toNat ≠ 10 ∧ b.toNat ≠ q ∧ ¬ (b.toNat = 92 ∧ q = 34)
theorem re_bytes (n : Int) (q : Nat) (es : List QR) (t : List UInt8) : ∀ (m a : List UInt8) (x : List UInt8) (k : Nat) (b : Bool), (∀ y ∈ m, calmQ q y) → Re (a ++ m ++ t) n q a.length es (x, k, b) (a.length + m.length) es (x ++ m, k, b) := by
  intro m
  induction m with
  | nil => intro a x k b _; simpa using Re.refl
  | cons y m ih =>
    intro a x k b h
    have e : a ++ y :: m ++ t = (a ++ [y]) ++ m ++ t := by simp
    have hr := ih (a ++ [y]) (x ++ [y]) k b (fun z hz => h z (by simp [hz]))
    rw [← e] at hr
    have el : (a ++ [y]).length + m.length = a.length + (y :: m).length := by simp; omega
    rw [el] at hr
    have ex : x ++ [y] ++ m = x ++ y :: m := by simp
    rw [ex] at hr
    have hy := h y (by simp)
    have hb : byt (a ++ y :: m ++ t) a.length = y.toNat := by
      have := byt_at a (y :: m ++ t) 0
      rw [Nat.add_zero, ← List.append_assoc] at this
      rw [this]; rfl
    intro R hR
    refine sc_byte (by simp) (by rw [hb]; exact hy.1) (by rw [hb]; exact hy.2.2) (by rw [hb]; exact hy.2.1) ?_
    have := hr R hR
    rw [List.length_append] at this
    rw [hb, show y.toNat.toUInt8 = y by simp]
    exact this
theorem show_bytes (r : Int) (h : byt (showM r) 0 = 92) : ∀ b ∈ showM r, 32 ≤ b.toNat ∧ b.toNat ≤ 126 := by
  unfold showM at h ⊢
  have hf := fixr_scalar r
  by_cases hl : letM (fixr r) ≠ []
  · rw [if_pos hl]; exact let_plain _
  · rw [if_neg hl] at h ⊢
    by_cases hp : printable (fixr r) = true
    · rw [if_pos hp] at h ⊢
      rcases encR_first hf.1 hf.2.1 hf.2.2 with ⟨h2, h3⟩ | ⟨h2, h3⟩
      · rw [h3] at h ⊢
        intro b hb
        obtain rfl := List.mem_singleton.1 hb
        rw [byt_zero] at h
        omega
      · exfalso
        have hpos := encR_pos (fixr r)
        cases he : Lib.encodeRune (fixr r) with
        | nil => rw [he] at hpos; simp at hpos
        | cons b m =>
          rw [he] at h3 h
          have := h3 b (by simp)
          rw [byt_zero] at h
          omega
    · rw [if_neg hp]; exact coded_plain _
theorem re_show (n : Int) (es : List QR) (a t x : List UInt8) (k : Nat) (b : Bool) (r : Int) (hr : scalarI r) :
    ∃ k', Re (a ++ showM r ++ t) n 34 a.length es (x, k, b) (a.length + (showM r).length) es (x ++ Lib.encodeRune r, k', b) := by
  obtain ⟨h0, h1, h2⟩ := hr
  rcases show_back a t r h0 h1 h2 with ⟨e0, e1, e2⟩ | ⟨e0, e1, e2, _, e34, e92, e10, _⟩
  · refine ⟨(x ++ Lib.encodeRune r).length, fun R hR => ?_⟩
    have hb0 : byt (a ++ showM r ++ t) a.length = byt (showM r) 0 := by
      have := byt_at a (showM r ++ t) 0
      rw [Nat.add_zero, ← List.append_assoc] at this
      rw [this]
      exact byt_append_left _ _ _ (by omega)
    have hb1 : byt (a ++ showM r ++ t) (a.length + 1) = byt (showM r) 1 := by
      have := byt_at a (showM r ++ t) 1
      rw [← List.append_assoc] at this
      rw [this]
      exact byt_append_left _ _ _ (by omega)
    refine sc_esc (by simp; omega) (by rw [hb0]; exact e0) rfl ?_ e2 hR
    rw [hb1]
    have := show_bytes r e0 ((showM r)[1]'(by omega)) (List.getElem_mem _)
    have hb : byt (showM r) 1 = ((showM r)[1]'(by omega)).toNat := by unfold byt; simp [show 1 < (showM r).length by omega]
    omega
  · refine ⟨k, ?_⟩
    have := re_bytes n 34 es t (showM r) a x k b (by
      intro y hy
      rw [e2] at hy
      rcases encR_first h0 h1 h2 with ⟨h3, h4⟩ | ⟨h3, h4⟩
      · rw [h4] at hy
        obtain rfl := List.mem_singleton.1 hy
        have : (r.toNat.toUInt8).toNat = r.toNat := tn r h0 (by omega)
        refine ⟨?_, ?_, ?_⟩ <;> omega
      · have := h4 y hy
        refine ⟨?_, ?_, ?_⟩ <;> omega)
    rw [e2] at this ⊢
    exact this
theorem re_shows (n : Int) (es : List QR) (t : List UInt8) (b : Bool) : ∀ (rs : List Int) (a x : List UInt8) (k : Nat), (∀ r ∈ rs, scalarI r) →
    ∃ k', Re (a ++ showsM rs ++ t) n 34 a.length es (x, k, b) (a.length + (showsM rs).length) es (x ++ enc rs, k', b) := by
  intro rs
  induction rs with
  | nil => intro a x k _; exact ⟨k, by simpa [showsM, enc] using Re.refl⟩
  | cons r rs ih =>
    intro a x k h
    obtain ⟨k1, h1⟩ := re_show n es a (showsM rs ++ t) x k b r (h r (by simp))
    obtain ⟨k2, h2⟩ := ih (a ++ showM r) (x ++ Lib.encodeRune r) k1 (fun y hy => h y (by simp [hy]))
    refine ⟨k2, ?_⟩
    rw [showsM_cons, enc_cons]
    have e1 : a ++ (showM r ++ showsM rs) ++ t = a ++ showM r ++ (showsM rs ++ t) := by simp
    have e2 : a ++ showM r ++ showsM rs ++ t = a ++ showM r ++ (showsM rs ++ t) := by simp
    rw [e2, List.length_append] at h2
    rw [e1, List.length_append, ← Nat.add_assoc, ← List.append_assoc x]
    exact h1.trans h2
theorem re_dbl (n : Int) (es : List QR) (t : List UInt8) (b : Bool) (k : Nat) : ∀ (m a x : List UInt8), (∀ y ∈ m, y.toNat ≠ 10) →
    Re (a ++ dbl m ++ t) n 39 a.length es (x, k, b) (a.length + (dbl m).length) es (x ++ m, k, b) := by
  intro m
  induction m with
  | nil => intro a x _; simpa [dbl] using Re.refl
  | cons y m ih =>
    intro a x h
    have hy := h y (by simp)
    rw [dbl_cons]
    by_cases h39 : y = 39
    · subst h39
      rw [if_pos rfl]
      have hr := ih (a ++ [39, 39]) (x ++ [39]) (fun z hz => h z (by simp [hz]))
      have e : a ++ ([39, 39] ++ dbl m) ++ t = a ++ [39, 39] ++ dbl m ++ t := by simp
      have el : (a ++ [39, 39]).length + (dbl m).length = a.length + ([39, 39] ++ dbl m).length := by simp; omega
      have ex : x ++ [39] ++ m = x ++ 39 :: m := by simp
      rw [← e, el, ex] at hr
      have hT : a ++ ([39, 39] ++ dbl m) ++ t = a ++ (39 :: 39 :: (dbl m ++ t)) := by simp
      intro R hR
      have hb0 : byt (a ++ ([39, 39] ++ dbl m) ++ t) a.length = 39 := by rw [hT]; exact byt_at a _ 0
      have hb1 : byt (a ++ ([39, 39] ++ dbl m) ++ t) (a.length + 1) = 39 := by rw [hT]; exact byt_at a _ 1
      refine sc_two (by simp) hb0 rfl hb1 ?_
      have := hr R hR
      rw [List.length_append] at this
      exact this
    · rw [if_neg h39]
      have hr := ih (a ++ [y]) (x ++ [y]) (fun z hz => h z (by simp [hz]))
      have e : a ++ ([y] ++ dbl m) ++ t = a ++ [y] ++ (dbl m ++ t) := by simp
      have e2 : a ++ [y] ++ dbl m ++ t = a ++ [y] ++ (dbl m ++ t) := by simp
      have el : (a ++ [y]).length + (dbl m).length = a.length + ([y] ++ dbl m).length := by simp; omega
      have ex : x ++ [y] ++ m = x ++ y :: m := by simp
      rw [el, ex, e2] at hr
      rw [e]
      have h1 := re_bytes n 39 es (dbl m ++ t) [y] a x k b (by
        intro z hz
        obtain rfl := List.mem_singleton.1 hz
        exact ⟨hy, fun h => h39 (UInt8.toNat_inj.1 h), by omega⟩)
      rw [List.length_append] at hr
      exact h1.trans hr
theorem single_no_feed {l : List UInt8} (h : singleM l = true) : ∀ y ∈ l, y.toNat ≠ 10 := by
  unfold singleM at h
  rw [Bool.and_eq_true] at h
  have hp : place l = -1 := by have := place_ge l; have := of_decide_eq_true h.1; omega
  have he := enc_runes hp
  intro y hy h10
  rw [← he] at hy
  obtain ⟨r, hr, hy⟩ := List.mem_flatMap.1 hy
  have hs := runes_scalar l r hr
  have ho := List.all_eq_true.1 h.2 r hr
  unfold okR at ho
  rw [Bool.and_eq_true] at ho
  have ho := of_decide_eq_true ho.2
  rcases encR_first hs.1 hs.2.1 hs.2.2 with ⟨h3, h4⟩ | ⟨h3, h4⟩
  · rw [h4] at hy
    obtain rfl := List.mem_singleton.1 hy
    have : (r.toNat.toUInt8).toNat = r.toNat := tn r hs.1 (by omega)
    have := hs.1
    omega
  · have := h4 y hy
    omega
/-- What is quoted is read as it was, whatever stands behind that does not begin with a quote. -/
theorem quote_back (l : List UInt8) (s : Bool) (behind : List UInt8) (n : Int) (hl : place l = -1) (hb : byt behind 0 ≠ 39) :
    quotM (quoteM l s ++ behind) 0 n = (l, ((quoteM l s).length : Int), true, 0) := by
  have fin : ∀ (Q : UInt8) (m : List UInt8) (k : Nat), (Q = 39 ∨ Q = 34) → Re ([Q] ++ m ++ ([Q] ++ behind)) n Q.toNat 1 [] newQ (1 + m.length) [] (l, k, false) →
      quotM ([Q] ++ m ++ [Q] ++ behind) 0 n = (l, (([Q] ++ m ++ [Q]).length : Int), true, 0) := by
    intro Q m k hQ hre
    have hT : [Q] ++ m ++ [Q] ++ behind = [Q] ++ m ++ ([Q] ++ behind) := by simp
    rw [hT]
    have hlen : ([Q] ++ m ++ ([Q] ++ behind)).length = 1 + m.length + 1 + behind.length := by simp; omega
    have hb0 : byt ([Q] ++ m ++ ([Q] ++ behind)) 0 = Q.toNat := rfl
    have hbe : byt ([Q] ++ m ++ ([Q] ++ behind)) (1 + m.length) = Q.toNat := by
      have := byt_at ([Q] ++ m) ([Q] ++ behind) 0
      rw [Nat.add_zero, show ([Q] ++ m).length = 1 + m.length by simp; omega] at this
      rw [this]; rfl
    have hbe1 : byt ([Q] ++ m ++ ([Q] ++ behind)) (1 + m.length + 1) = byt behind 0 := by
      have := byt_at ([Q] ++ m) ([Q] ++ behind) 1
      rw [show ([Q] ++ m).length = 1 + m.length by simp; omega] at this
      rw [this]
      exact byt_at [Q] behind 0
    have hq : Q.toNat = 39 ∨ Q.toNat = 34 := by rcases hQ with rfl | rfl <;> simp
    have hsc : Sc ([Q] ++ m ++ ([Q] ++ behind)) n Q.toNat 1 [] newQ (0, 1 + m.length + 1, [] ++ [(l, k, false)]) :=
      hre _ (sc_done (by rw [hlen]; omega) (by rw [hbe]; omega) hbe (by rw [hbe1]; exact fun h => hb h.2))
    have hsm := sc_is hsc (by rw [hlen]; omega)
    unfold quotM
    rw [if_neg (by rw [hlen, show (0 : Int).toNat = 0 from rfl, hb0]; omega), show (0 : Int).toNat = 0 from rfl, hb0, hsm]
    show (if (0 : Int) = 0 then (joinQ [(l, k, false)], ((1 + m.length + 1 : Nat) : Int), decide ([(l, k, false)].length = 1), (0 : Int)) else _) = _
    rw [if_pos rfl, join_one]
    refine Prod.ext rfl (Prod.ext ?_ rfl)
    simp
    omega
  unfold quoteM
  cases hc : (s && singleM l) with
  | true =>
    rw [if_pos rfl]
    rw [Bool.and_eq_true] at hc
    have := re_dbl n [] ([39] ++ behind) false 0 l [39] [] (single_no_feed hc.2)
    exact fin 39 (dbl l) 0 (.inl rfl) this
  | false =>
    rw [if_neg (by simp)]
    obtain ⟨k, hk⟩ := re_shows n [] ([34] ++ behind) false (runes l) [34] [] 0 (runes_scalar l)
    rw [enc_runes hl] at hk
    exact fin 34 (showsM (runes l)) k (.inr rfl) hk
end U
end Go.Proofs.YtobojdkloblfbaaDoor
