/- The walks of package fold: rows of a block scalar made one text. -/
import Derived.Test.YtjfgcbikdibjeaaGreatDoorPAllB
import Derived.Test.YtjfgcbikdibjeaaGreatDoorWSign
import Derived.Test.YtjfgcbikdibjeaaGreatDoorBld
import Derived.Test.YtjfgcbikdibjeaaGreatDoorBldStr
import Derived.Test.YtjfgcbikdibjeaaGreatDoorLong
import Derived.Deep.DeepCutAuto
namespace Go.Proofs.YtjfgcbikdibjeaaGreatDoor
open Go.RowKit U Go.Proofs

theorem ite_maxF (a b : Int) : (if a < b then b else a) = max a b := by omega
attribute [local go_sem] ite_maxF
/-- A slice of texts, with room for them. -/
def Slc (w : World) (v : Value) (xs : List (List UInt8)) : Prop :=
  ∃ a c, v = .slice a xs.length c ∧ xs.length ≤ c ∧ (∀ (i : Nat) (hi : i < xs.length), ∃ b off, a = some ⟨b, off, none⟩ ∧ b < w.heap.size ∧ w.cell? ⟨b, off + i, none⟩ = some (.string ⟨(xs[i]'hi).toArray⟩))
theorem Slc.below {w w' : World} {v : Value} {xs : List (List UInt8)} (h : Slc w v xs) (hb : Below w.heap.size w w') : Slc w' v xs := by
  obtain ⟨a, c, h1, h2, h3⟩ := h
  refine ⟨a, c, h1, h2, fun i hi => ?_⟩
  obtain ⟨b, off, e, hl, hc⟩ := h3 i hi
  exact ⟨b, off, e, Nat.lt_of_lt_of_le hl hb.size, (hb.cell (p := ⟨b, off + i, none⟩) hl).trans hc⟩
theorem Slc.own {w : World} {base : Nat} {e : TypeId} {v : Value} {xs : List (List UInt8)} (h : w.ownsRow base e 1 v xs.length (strs xs)) : Slc w v xs := by
  rcases Nat.eq_zero_or_pos xs.length with h0 | h0
  · rcases h.2 with ⟨rfl, _⟩ | ⟨g, cap, cur, hv, _, _, hc, _⟩
    · exact ⟨none, 0, by rw [h0], by omega, fun i hi => by omega⟩
    · exact ⟨_, cap, hv, hc, fun i hi => by omega⟩
  · obtain ⟨g, cap, hv, _, hlt⟩ := h.form h0
    have hc : xs.length ≤ cap := by
      rcases h.2 with ⟨_, h'⟩ | ⟨g', cap', cur, hv', _, _, hc, _⟩
      · omega
      · rw [hv] at hv'
        injection hv' with _ _ e
        omega
    refine ⟨_, cap, hv, hc, fun i hi => ⟨g, 0, rfl, hlt, ?_⟩⟩
    have hh := h.cells (g := g) (by rw [hv]; rfl) i _ (strs_get hi)
    by_cases hi : i = 0
    · subst hi; simpa [Addr.add] using hh
    · simpa [Addr.add, hi] using hh
theorem Slc.of_sl {w : World} {a : Option Addr} {c : Nat} {xs : List (List UInt8)} (h : Sl w (.slice a xs.length c) (strs xs)) (hc : xs.length ≤ c) : Slc w (.slice a xs.length c) xs := by
  obtain ⟨a', c', e, h'⟩ := Sl.strs' h
  injection e with e1 _ e3
  subst e1 e3
  exact ⟨_, _, rfl, hc, h'⟩
theorem Slc.take {w : World} {a : Option Addr} {n c : Nat} {xs : List (List UInt8)} (h : Slc w (.slice a n c) xs) {k : Nat} (hk : k ≤ xs.length) : Slc w (.slice a k c) (xs.take k) := by
  obtain ⟨a', c', e, hc, h'⟩ := h
  injection e with e1 e2 e3
  subst e1 e2 e3
  have hl : (xs.take k).length = k := by rw [List.length_take]; omega
  refine ⟨a, c, by rw [hl], by rw [hl]; omega, fun i hi => ?_⟩
  rw [hl] at hi
  obtain ⟨b, off, e, hb, hc⟩ := h' i (by omega)
  exact ⟨b, off, e, hb, by rw [List.getElem_take]; exact hc⟩
theorem isB_after {B b : Nat} {l : List UInt8} {w w' : World} (h : IsB B b l w) (hb : Below w.heap.size w w') : IsB B b l w' := by
  have hg : w.grownBy w' none := ⟨hb.os, hb.tape, hb.output, hb.size, fun k hk _ => hb.block k hk⟩
  have key : ∀ p, Lib.BuilderAtF 78 5 B b p (Lib.byteCells l) w → Lib.BuilderAtF 78 5 B b p (Lib.byteCells l) w' := by
    intro p h
    have hlt := h.lt
    obtain ⟨hB, v, hbk, hown, hne⟩ := h
    exact ⟨hB, v, (hb.block b hlt).trans hbk, hown.kept hg (by cases hv : v.ownBlock <;> simp), hne⟩
  exact h.elim (fun x => .inl (key _ x)) (fun x => .inr (key _ x))
theorem joinB_lib : ∀ xs : List (List UInt8), Lib.join xs [10] = joinB xs
  | [] => rfl
  | [x] => by simp [Lib.join, joinB]
  | x :: y :: t => by
    have ih := joinB_lib (y :: t)
    rw [joinB_two, ← ih]
    simp [Lib.join]
theorem reps_c (n : Nat) (w : World) (hn : n ≤ 1000000000) :
    Calls Tryz.prog 124 #[.string ⟨#[10]⟩, .int .i64 n] w fun e w' => e = .returned (.string ⟨(List.replicate n 10).toArray⟩) ∧ Below w.heap.size w w' := by
  refine (Tryz.strings_Repeat ⟨#[10]⟩ n w (by omega) (by rw [show (⟨#[10]⟩ : ByteArray).size = 1 from rfl]; omega)).mono ?_
  rintro e w' ⟨rfl, hb⟩
  refine ⟨ret_str ?_, hb⟩
  have := Lib.repeatL_replicate 10 1 n
  rw [Nat.mul_one] at this
  exact this
theorem join_c (v : Value) (xs : List (List UInt8)) (w : World) (h : Slc w v xs) (hs : sumL xs ≤ 1000000) :
    Calls Tryz.prog 175 #[v, .string ⟨#[10]⟩] w fun e w' => e = .returned (.string ⟨(joinB xs).toArray⟩) ∧ Below w.heap.size w w' := by
  have hl : xs.length ≤ sumL xs := by
    clear h hs
    induction xs with
    | nil => exact Nat.zero_le _
    | cons x t ih => rw [sumL_cons, List.length_cons]; omega
  obtain ⟨a, c, rfl, hc, hx⟩ := h
  rcases Nat.eq_zero_or_pos xs.length with h0 | h0
  · obtain rfl : xs = [] := List.length_eq_zero_iff.1 h0
    refine (Tryz.strings_Join_none a c ⟨#[10]⟩ w).mono ?_
    rintro e w' ⟨rfl, rfl⟩
    exact ⟨rfl, Below.refl _ _⟩
  · obtain ⟨b, off, rfl, hb, -⟩ := hx 0 h0
    have hj := joinB_len xs
    have hm : ∀ (ys : List (List UInt8)), (ys.map fun l : List UInt8 => (⟨l.toArray⟩ : ByteArray)).map (·.data.toList) = ys := fun ys => by rw [List.map_map]; simp [Function.comp_def]
    have key := Tryz.strings_Join b off c (xs.map fun l : List UInt8 => (⟨l.toArray⟩ : ByteArray)) ⟨#[10]⟩ w (fun j x hj => by
      rw [List.getElem?_map] at hj
      have hjl : j < xs.length := by
        rcases Nat.lt_or_ge j xs.length with h | h
        · exact h
        · rw [List.getElem?_eq_none h] at hj; cases hj
      obtain ⟨b', off', e, _, hc'⟩ := hx j hjl
      injection e with e
      injection e with e1 e2
      subst e1 e2
      rw [List.getElem?_eq_getElem hjl] at hj
      injection hj with hj
      rw [← hj]
      exact hc') hb (by rw [List.length_map]; omega) (by rw [List.length_map]; exact hc) (by rw [hm]; show (Lib.join xs [10]).length ≤ _; rw [joinB_lib]; omega)
    rw [List.length_map, hm] at key
    refine key.mono ?_
    rintro e w' ⟨rfl, hb⟩
    exact ⟨ret_str (joinB_lib xs), hb⟩
set_option maxRecDepth 100000 in
set_option maxHeartbeats 1000000 in
theorem fwhite_c (l : List UInt8) (w : World) (h : 0 < l.length) (_hs : l.length ≤ 1073741824) :
    Calls Tryz.prog 176 #[.string ⟨l.toArray⟩] w fun e w' => e = .returned (.bool (whN (byt l 0))) ∧ w = w' := by
  have hW := fun w => white_c (byt l 0) w (byt_lt l 0)
  go_enter Tryz.func176, Tryz.ntmps176
  go_wp2_with fail
  refine (hW _).mono ?_
  rintro e w1 ⟨rfl, rfl⟩
  go_wp2_with fail
  go_ret
  exact ⟨rfl, rfl⟩
def gapM (b : Nat) : List UInt8 := if b = 0 then [32] else List.replicate b 10
set_option maxRecDepth 100000 in
set_option maxHeartbeats 1000000 in
theorem gap_c (n : Nat) (w : World) (hn : n ≤ 1000000000) :
    Calls Tryz.prog 114 #[.int .i64 n] w fun e w' => e = .returned (.string ⟨(gapM n).toArray⟩) ∧ Below w.heap.size w w' := by
  by_cases h0 : n = 0
  · subst h0
    go_enter Tryz.func114, Tryz.ntmps114
    go_wp2_with fail
    go_ret
    exact ⟨rfl, Below.refl _ _⟩
  · have g0 : ((n : Int) == 0) = false := by rw [beq_eq_false_iff_ne]; omega
    have hG : gapM n = List.replicate n 10 := if_neg h0
    have HG := Lib.hid hG
    clear hG h0
    go_enter Tryz.func114, Tryz.ntmps114
    go_wp2_with fail
    refine (reps_c n _ hn).mono ?_
    rintro e w1 ⟨rfl, hb⟩
    go_wp2_with fail
    go_ret
    exact ⟨ret_str (by rw [HG.out]), hb⟩
set_option maxRecDepth 100000 in
set_option maxHeartbeats 4000000 in
theorem foldBlock_no (v : Value) (xs : List (List UInt8)) (w : World) (h : Slc w v xs) (hs : sumL xs ≤ 1000000) :
    Calls Tryz.prog 158 #[v, .bool false] w fun e w' => e = .returned (.string ⟨(blockM xs false).toArray⟩) ∧ Below w.heap.size w w' := by
  have hJ := fun w h => join_c v xs w h hs
  have hB : blockM xs false = joinB xs := rfl
  rw [hB]
  generalize joinB xs = J at *
  have H := Lib.hid h
  clear hB h
  go_enter Tryz.func158, Tryz.ntmps158
  go_wp2_with fail
  refine (hJ _ H.out).mono ?_
  rintro e w1 ⟨rfl, hb⟩
  go_wp2_with fail
  go_ret
  exact ⟨rfl, hb⟩
set_option maxRecDepth 100000 in
set_option maxHeartbeats 8000000 in
theorem foldBlock_yes (v : Value) (xs : List (List UInt8)) (w : World) (h : Slc w v xs) (hs : sumL xs ≤ 1000000) :
    Calls Tryz.prog 158 #[v, .bool true] w fun e w' => e = .returned (.string ⟨(blockM xs true).toArray⟩) ∧ Below w.heap.size w w' := by
  have hB : blockM xs true = foldB xs [] 0 := rfl
  rw [hB]
  have hF := foldB_len xs [] 0
  generalize hT : foldB xs [] 0 = T at *
  have HT := Lib.hid hT
  have hxl : ∀ x ∈ xs, x.length ≤ 1000000 := by
    intro x hx
    have : ∀ (ys : List (List UInt8)), x ∈ ys → x.length ≤ sumL ys := by
      intro ys
      induction ys with
      | nil => intro h; cases h
      | cons y t ih =>
        intro h
        rw [sumL_cons]
        rcases List.mem_cons.1 h with rfl | h
        · omega
        · have := ih h; omega
    have := this xs hx
    omega
  have hl : xs.length ≤ sumL xs := by
    clear h hs hT HT hF hB hxl
    induction xs with
    | nil => exact Nat.zero_le _
    | cons x t ih => rw [sumL_cons, List.length_cons]; omega
  have HX := Lib.hid hxl
  obtain ⟨a, c, rfl, hc, hcells⟩ := h
  have HC := Lib.hid hcells
  clear hB hT hxl hcells
  generalize hB : w.heap.size = B at *
  have hI0 : IsB B B [] (w.alloc (.cells #[.pointer none, .slice none 0 0] 78)) := by subst hB; exact Lib.IsBuilderF.of (Lib.fresh_isBuilder 78 5 w)
  have hBA : Below B w (w.alloc (.cells #[.pointer none, .slice none 0 0] 78)) := by subst hB; exact (Below.refl _ _).alloc (Nat.le_refl _) _
  have hBz : B < (w.alloc (.cells #[.pointer none, .slice none 0 0] 78)).heap.size := by subst hB; simp
  have HBB := Lib.hid hB
  go_enter Tryz.func158, Tryz.ntmps158
  go_wp2_with fail
  generalize w.alloc (.cells #[.pointer none, .slice none 0 0] 78) = w0 at *
  clear hB HBB
  go_loopw [6, 7, 16] (fun s6 s7 s16 wr => ∃ (k b : Nat) (last acc : List UInt8), k ≤ xs.length ∧ b ≤ k ∧ s16 = .int .i64 k ∧ s6 = .int .i64 b ∧ s7 = .string ⟨last.toArray⟩ ∧ last.length ≤ 1000000 ∧ acc.length ≤ 1000000 ∧ IsB B B acc wr ∧ Below B w wr ∧ B < wr.heap.size ∧ Hid (acc ++ foldB (xs.drop k) last b = T)) (fun _ _ s16 _ => xs.length - (intOf s16).toNat)
  case atStart => exact ⟨0, 0, [], [], Nat.zero_le _, Nat.le_refl _, rfl, rfl, rfl, by decide, by decide, hI0, hBA, hBz, Lib.hid HT.out⟩
  case round =>
    obtain ⟨k, b, last, acc, hk, hbk, rfl, rfl, rfl, hll, hal, hI, hbw, hz, HR⟩ := hrel
    by_cases hlt : k < xs.length
    · obtain ⟨bb, off, rfl, hbb, hcl⟩ := HC.out k hlt
      have hcl2 := (hbw.cell (p := ⟨bb, off + k, none⟩) hbb).trans hcl
      have hxl := HX.out _ (List.getElem_mem hlt)
      have hdr : xs.drop k = xs[k]'hlt :: xs.drop (k + 1) := List.drop_eq_getElem_cons hlt
      obtain ⟨x, he⟩ : ∃ x, xs[k]'hlt = x := ⟨_, rfl⟩
      rw [he] at hcl2 hdr hxl
      have HD := Lib.hid hdr
      clear hdr he hcl hbb
      have HI := Lib.hid hI
      clear hI
      by_cases hx : x = []
      · subst hx
        have HR2 : Hid (acc ++ foldB (xs.drop (k + 1)) last (b + 1) = T) := Lib.hid (by
          have h1 := HR.out
          rw [HD.out, foldB, if_pos rfl] at h1
          exact h1)
        clear HR HD
        go_wp2_with fail
        go_round
        case rel => exact ⟨k + 1, b + 1, last, acc, by omega, by omega, by go_num, by go_num, rfl, hll, hal, HI.out, hbw, hz, HR2⟩
        case measure => simp [intOf]; omega
      · have gx : x.isEmpty = false := by cases x with | nil => exact absurd rfl hx | cons _ _ => rfl
        have gx2 : (x == []) = false := by cases x with | nil => exact absurd rfl hx | cons _ _ => rfl
        have hx0 : 0 < x.length := List.length_pos_iff.2 hx
        have HR1 : Hid (acc ++ (sepM last x b ++ x ++ foldB (xs.drop (k + 1)) x 0) = T) := Lib.hid (by
          have h1 := HR.out
          rw [HD.out, foldB, if_neg hx] at h1
          exact h1)
        have hsl : acc.length + (sepM last x b).length + x.length ≤ T.length := by
          rw [← HR1.out]
          simp only [List.length_append]
          omega
        clear HR HD hx
        by_cases hl0 : last = []
        · subst hl0
          have hsp : sepM [] x b = List.replicate b 10 := rfl
          rw [hsp] at HR1 hsl
          clear hsp
          have hR := fun w => reps_c b w (by omega)
          generalize List.replicate b (10 : UInt8) = sp at *
          go_wp2_with fail
          refine (hR _).mono ?_
          rintro e w1 ⟨rfl, b1⟩
          have hI1 := isB_after HI.out b1
          have hbw1 := hbw.trans (b1.mono (Nat.le_of_lt hz))
          have hz1 := Nat.lt_of_lt_of_le hz b1.size
          clear b1
          go_wp2_with fail
          refine (bldStr_c B B acc sp _ hI1 (by omega) (by omega)).mono ?_
          rintro e w2 ⟨n2, rfl, h2, b2, _⟩
          have hI2 := h2.is
          have hbw2 := hbw1.trans b2
          have hz2 := Nat.lt_of_lt_of_le hz1 b2.size
          clear h2 b2
          go_wp2_with fail
          refine (bldStr_c B B (acc ++ sp) x _ hI2 (by rw [List.length_append]; omega) (by omega)).mono ?_
          rintro e w3 ⟨n3, rfl, h3, b3, _⟩
          go_wp2_with fail
          go_round
          case rel => exact ⟨k + 1, 0, x, acc ++ sp ++ x, by omega, by omega, by go_num, rfl, rfl, hxl, by simp only [List.length_append]; omega, h3.is, hbw2.trans b3, Nat.lt_of_lt_of_le hz2 b3.size, Lib.hid (by rw [← HR1.out]; simp)⟩
          case measure => simp [intOf]; omega
        · have gl : last.isEmpty = false := by cases last with | nil => exact absurd rfl hl0 | cons _ _ => rfl
          have gl2 : (last == []) = false := by cases last with | nil => exact absurd rfl hl0 | cons _ _ => rfl
          have hla : 0 < last.length := List.length_pos_iff.2 hl0
          have hW1 := fun w => fwhite_c last w hla (by omega)
          have hW2 := fun w => fwhite_c x w hx0 (by omega)
          have hsp : sepM last x b = if whN (byt last 0) = true ∨ whN (byt x 0) = true then List.replicate (b + 1) 10 else gapM b := by
            unfold sepM gapM
            rw [if_neg hl0]
          cases h1 : whN (byt last 0) with
          | true =>
            rw [h1] at hW1 hsp
            rw [if_pos (.inl rfl)] at hsp
            clear h1 hl0
            rw [hsp] at HR1 hsl
            clear hsp
            have hR := fun w => reps_c (b + 1) w (by omega)
            generalize List.replicate (b + 1) (10 : UInt8) = sp at *
            go_wp2_with fail
            refine (hW1 _).mono ?_
            rintro e w9 ⟨rfl, rfl⟩
            go_wp2_with fail
            refine (hR _).mono ?_
            rintro e w1 ⟨rfl, b1⟩
            have hI1 := isB_after HI.out b1
            have hbw1 := hbw.trans (b1.mono (Nat.le_of_lt hz))
            have hz1 := Nat.lt_of_lt_of_le hz b1.size
            clear b1
            go_wp2_with fail
            refine (bldStr_c B B acc sp _ hI1 (by omega) (by omega)).mono ?_
            rintro e w2 ⟨n2, rfl, h2, b2, _⟩
            have hI2 := h2.is
            have hbw2 := hbw1.trans b2
            have hz2 := Nat.lt_of_lt_of_le hz1 b2.size
            clear h2 b2
            go_wp2_with fail
            refine (bldStr_c B B (acc ++ sp) x _ hI2 (by rw [List.length_append]; omega) (by omega)).mono ?_
            rintro e w3 ⟨n3, rfl, h3, b3, _⟩
            go_wp2_with fail
            go_round
            case rel => exact ⟨k + 1, 0, x, acc ++ sp ++ x, by omega, by omega, by go_num, rfl, rfl, hxl, by simp only [List.length_append]; omega, h3.is, hbw2.trans b3, Nat.lt_of_lt_of_le hz2 b3.size, Lib.hid (by rw [← HR1.out]; simp)⟩
            case measure => simp [intOf]; omega
          | false =>
            rw [h1] at hW1 hsp
            cases h2 : whN (byt x 0) with
            | true =>
              rw [h2] at hW2 hsp
              rw [if_pos (.inr rfl)] at hsp
              clear h1 h2 hl0
              rw [hsp] at HR1 hsl
              clear hsp
              have hR := fun w => reps_c (b + 1) w (by omega)
              generalize List.replicate (b + 1) (10 : UInt8) = sp at *
              go_wp2_with fail
              refine (hW1 _).mono ?_
              rintro e w9 ⟨rfl, rfl⟩
              go_wp2_with fail
              refine (hW2 _).mono ?_
              rintro e w9 ⟨rfl, rfl⟩
              go_wp2_with fail
              refine (hR _).mono ?_
              rintro e w1 ⟨rfl, b1⟩
              have hI1 := isB_after HI.out b1
              have hbw1 := hbw.trans (b1.mono (Nat.le_of_lt hz))
              have hz1 := Nat.lt_of_lt_of_le hz b1.size
              clear b1
              go_wp2_with fail
              refine (bldStr_c B B acc sp _ hI1 (by omega) (by omega)).mono ?_
              rintro e w2 ⟨n2, rfl, h2, b2, _⟩
              have hI2 := h2.is
              have hbw2 := hbw1.trans b2
              have hz2 := Nat.lt_of_lt_of_le hz1 b2.size
              clear h2 b2
              go_wp2_with fail
              refine (bldStr_c B B (acc ++ sp) x _ hI2 (by rw [List.length_append]; omega) (by omega)).mono ?_
              rintro e w3 ⟨n3, rfl, h3, b3, _⟩
              go_wp2_with fail
              go_round
              case rel => exact ⟨k + 1, 0, x, acc ++ sp ++ x, by omega, by omega, by go_num, rfl, rfl, hxl, by simp only [List.length_append]; omega, h3.is, hbw2.trans b3, Nat.lt_of_lt_of_le hz2 b3.size, Lib.hid (by rw [← HR1.out]; simp)⟩
              case measure => simp [intOf]; omega
            | false =>
              rw [h2] at hW2 hsp
              rw [if_neg (by decide)] at hsp
              clear h1 h2 hl0
              rw [hsp] at HR1 hsl
              clear hsp
              have hR := fun w => gap_c b w (by omega)
              generalize gapM b = sp at *
              go_wp2_with fail
              refine (hW1 _).mono ?_
              rintro e w9 ⟨rfl, rfl⟩
              go_wp2_with fail
              refine (hW2 _).mono ?_
              rintro e w9 ⟨rfl, rfl⟩
              go_wp2_with fail
              refine (hR _).mono ?_
              rintro e w1 ⟨rfl, b1⟩
              have hI1 := isB_after HI.out b1
              have hbw1 := hbw.trans (b1.mono (Nat.le_of_lt hz))
              have hz1 := Nat.lt_of_lt_of_le hz b1.size
              clear b1
              go_wp2_with fail
              refine (bldStr_c B B acc sp _ hI1 (by omega) (by omega)).mono ?_
              rintro e w2 ⟨n2, rfl, h2, b2, _⟩
              have hI2 := h2.is
              have hbw2 := hbw1.trans b2
              have hz2 := Nat.lt_of_lt_of_le hz1 b2.size
              clear h2 b2
              go_wp2_with fail
              refine (bldStr_c B B (acc ++ sp) x _ hI2 (by rw [List.length_append]; omega) (by omega)).mono ?_
              rintro e w3 ⟨n3, rfl, h3, b3, _⟩
              go_wp2_with fail
              go_round
              case rel => exact ⟨k + 1, 0, x, acc ++ sp ++ x, by omega, by omega, by go_num, rfl, rfl, hxl, by simp only [List.length_append]; omega, h3.is, hbw2.trans b3, Nat.lt_of_lt_of_le hz2 b3.size, Lib.hid (by rw [← HR1.out]; simp)⟩
              case measure => simp [intOf]; omega
    · obtain rfl : k = xs.length := by omega
      have HR2 : Hid (acc ++ List.replicate (if last = [] then b - 1 else b) 10 = T) := Lib.hid (by
        have h1 := HR.out
        rw [List.drop_length, foldB] at h1
        exact h1)
      clear HR HC HX
      have HI := Lib.hid hI
      clear hI
      by_cases hl0 : last = []
      · subst hl0
        have hm1 : max ((b : Int) - 1) 0 = ((b - 1 : Nat) : Int) := by omega
        have hR := fun w => reps_c (b - 1) w (by omega)
        go_wp2_with fail
        refine (Tryz.Builder_String_any_k B B _ _ HI.out (by omega)).mono ?_
        rintro e w1 ⟨rfl, _, b1, _⟩
        go_wp2_with fail
        refine (hR _).mono ?_
        rintro e w2 ⟨rfl, b2⟩
        go_wp2_with fail
        go_ret
        exact ⟨ret_str HR2.out, (hbw.trans b1).trans (b2.mono (Nat.le_of_lt (Nat.lt_of_lt_of_le hz b1.size)))⟩
      · have gl : last.isEmpty = false := by cases last with | nil => exact absurd rfl hl0 | cons _ _ => rfl
        have gl2 : (last == []) = false := by cases last with | nil => exact absurd rfl hl0 | cons _ _ => rfl
        have hR := fun w => reps_c b w (by omega)
        have HR3 : Hid (acc ++ List.replicate b 10 = T) := Lib.hid (by have h1 := HR2.out; rw [if_neg hl0] at h1; exact h1)
        clear HR2 hl0
        go_wp2_with fail
        refine (Tryz.Builder_String_any_k B B _ _ HI.out (by omega)).mono ?_
        rintro e w1 ⟨rfl, _, b1, _⟩
        go_wp2_with fail
        refine (hR _).mono ?_
        rintro e w2 ⟨rfl, b2⟩
        go_wp2_with fail
        go_ret
        exact ⟨ret_str HR3.out, (hbw.trans b1).trans (b2.mono (Nat.le_of_lt (Nat.lt_of_lt_of_le hz b1.size)))⟩
theorem foldBlock_c (v : Value) (xs : List (List UInt8)) (f : Bool) (w : World) (h : Slc w v xs) (hs : sumL xs ≤ 1000000) :
    Calls Tryz.prog 158 #[v, .bool f] w fun e w' => e = .returned (.string ⟨(blockM xs f).toArray⟩) ∧ Below w.heap.size w w' := by
  cases f with
  | false => exact foldBlock_no v xs w h hs
  | true => exact foldBlock_yes v xs w h hs
end Go.Proofs.YtjfgcbikdibjeaaGreatDoor
