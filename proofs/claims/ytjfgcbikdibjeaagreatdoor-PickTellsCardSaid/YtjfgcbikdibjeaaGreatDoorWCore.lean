/- The walks of package core. -/
import Derived.Test.YtjfgcbikdibjeaaGreatDoorBase
import Derived.Test.YtjfgcbikdibjeaaGreatDoorPAllA
import Derived.Test.YtjfgcbikdibjeaaGreatDoorShelf
import Derived.Shelf.Strings.SlTrimAscii
namespace Go.Proofs.YtjfgcbikdibjeaaGreatDoor
open Go.RowKit U Go.Proofs

theorem toList_mk (l : List UInt8) : (⟨l.toArray⟩ : ByteArray).toList = l := by rw [Lib.toList_data]
attribute [go_sem] toList_mk

/-! ### Cutsets. -/
theorem trimR_all (p : UInt8 → Bool) (l : List UInt8) (h : (l.reverse.dropWhile p).reverse.all p = true) : l.all p = true := by
  cases hr : l.reverse.dropWhile p with
  | nil =>
    have := (dropWhile_nil_iff p l.reverse).1 hr
    simpa using this
  | cons b t =>
    exfalso
    have h1 : p b = true := by rw [hr] at h; simp at h; exact h.2
    have h2 := List.head_dropWhile_not p (l := l.reverse) (by rw [hr]; simp)
    simp only [hr, List.head_cons] at h2
    rw [h1] at h2
    cases h2
theorem trimS_nil (l cs : List UInt8) : (Lib.trimS l cs == []) = l.all (cs.contains ·) := by
  rw [Bool.eq_iff_iff, beq_iff_eq]
  constructor
  · intro h
    exact trimR_all _ l ((dropWhile_nil_iff _ _).1 h)
  · intro h
    have h2 : Lib.trimRightS l cs = [] := by
      unfold Lib.trimRightS
      rw [(dropWhile_nil_iff _ _).2 (by simpa using h)]
      rfl
    unfold Lib.trimS
    rw [h2]
    rfl
theorem byte_all {p q : UInt8 → Bool} (h : ∀ n : Fin 256, p (UInt8.ofNat n.1) = q (UInt8.ofNat n.1)) : p = q := by
  funext b
  have := h ⟨b.toNat, b.toNat_lt⟩
  simpa using this
def cs8 : List UInt8 := [48, 49, 50, 51, 52, 53, 54, 55]
def cs10 : List UInt8 := [48, 49, 50, 51, 52, 53, 54, 55, 56, 57]
def cs16 : List UInt8 := [48, 49, 50, 51, 52, 53, 54, 55, 56, 57, 97, 98, 99, 100, 101, 102, 65, 66, 67, 68, 69, 70]
theorem cs8_p : (fun b => cs8.contains b) = oct8 := byte_all (by decide +kernel)
theorem cs10_p : (fun b => cs10.contains b) = dec10 := byte_all (by decide +kernel)
theorem cs16_p : (fun b => cs16.contains b) = hex16 := byte_all (by decide +kernel)

set_option maxRecDepth 100000 in
set_option maxHeartbeats 1000000 in
theorem all_c (l cs : List UInt8) (w : World) (hs : l.length ≤ 1073741824) (hcs : cs.length < 1000) (hascii : ∀ (j : Nat) b, cs[j]? = some b → b.toNat < 128) :
    Calls Tryz.prog 141 #[.string ⟨l.toArray⟩, .string ⟨cs.toArray⟩] w fun e w' => e = .returned (.bool (allOf (fun b => cs.contains b) l)) ∧ Below w.heap.size w w' := by
  have ht := trimS_nil l cs
  by_cases h0 : l = []
  · subst h0
    go_enter Tryz.func141, Tryz.ntmps141
    go_wp2_with fail
    go_ret
    exact ⟨rfl, Below.refl _ _⟩
  · have he : l.isEmpty = false := by cases l with | nil => exact absurd rfl h0 | cons b t => rfl
    have hr : allOf (fun b => cs.contains b) l = (Lib.trimS l cs == []) := by rw [allOf, he, ht]; rfl
    rw [hr]
    have hT := Any.strings_Trim_laid Tryz.lays160 (by kernel_rfl) ⟨l.toArray⟩ ⟨cs.toArray⟩ w (by rw [size_mk]; omega) (by rw [size_mk]; omega) hascii
    change Calls Tryz.prog 50 _ _ _ at hT
    generalize hX : Lib.trimS l cs = x at *
    have HX := Lib.hid hX
    clear hX ht hr
    go_enter Tryz.func141, Tryz.ntmps141
    go_wp2_with fail
    refine hT.mono ?_
    rintro e w1 ⟨rfl, hb⟩
    cases x with
    | nil =>
      go_wp2_with fail
      go_ret
      exact ⟨rfl, hb⟩
    | cons c t =>
      go_wp2_with fail
      go_ret
      exact ⟨rfl, hb⟩
theorem emp_no {l : List UInt8} (h : l ≠ []) : l.isEmpty = false := by cases l with | nil => exact absurd rfl h | cons b t => rfl
theorem unsign_byt (l : List UInt8) : unsign l = if l ≠ [] ∧ (byt l 0 = 43 ∨ byt l 0 = 45) then l.drop 1 else l := by
  cases l with
  | nil => rfl
  | cons b t =>
    have h1 : byt (b :: t) 0 = b.toNat := rfl
    have h43 : b = 43 ↔ b.toNat = 43 := ⟨fun h => by rw [h]; rfl, fun h => UInt8.toNat.inj h⟩
    have h45 : b = 45 ↔ b.toNat = 45 := ⟨fun h => by rw [h]; rfl, fun h => UInt8.toNat.inj h⟩
    simp only [unsign, h1, h43, h45]
    by_cases h : b.toNat = 43 ∨ b.toNat = 45
    · rw [if_pos h, if_pos ⟨by simp, h⟩]; rfl
    · rw [if_neg h, if_neg (fun hh => h hh.2)]
set_option maxRecDepth 100000 in
set_option maxHeartbeats 1000000 in
theorem unsigned_c (l : List UInt8) (w : World) (hs : l.length ≤ 1073741824) :
    Calls Tryz.prog 142 #[.string ⟨l.toArray⟩] w fun e w' => e = .returned (.string ⟨(unsign l).toArray⟩) ∧ w = w' := by
  rw [unsign_byt]
  by_cases h0 : l = []
  · subst h0
    rw [if_neg (fun h => h.1 rfl)]
    go_enter Tryz.func142, Tryz.ntmps142
    go_wp2_with fail
    go_ret
    exact ⟨rfl, rfl⟩
  · have hp : 0 < l.length := List.length_pos_iff.2 h0
    have hemp := emp_no h0
    by_cases h1 : byt l 0 = 43
    · rw [if_pos ⟨h0, .inl h1⟩]
      go_enter Tryz.func142, Tryz.ntmps142
      go_wp2_with fail
      go_ret
      exact ⟨ret_str (by simp), rfl⟩
    by_cases h2 : byt l 0 = 45
    · rw [if_pos ⟨h0, .inr h2⟩]
      go_enter Tryz.func142, Tryz.ntmps142
      go_wp2_with fail
      go_ret
      exact ⟨ret_str (by simp), rfl⟩
    · rw [if_neg (fun h => h.2.elim h1 h2)]
      have e1 : ((byt l 0 : Int) == 43) = false := by simp; omega
      have e2 : ((byt l 0 : Int) == 45) = false := by simp; omega
      go_enter Tryz.func142, Tryz.ntmps142
      go_wp2_with fail
      go_ret
      exact ⟨rfl, rfl⟩
set_option maxRecDepth 100000 in
set_option maxHeartbeats 1000000 in
theorem digits_c (l : List UInt8) (w : World) (hs : l.length ≤ 1073741824) :
    Calls Tryz.prog 143 #[.string ⟨l.toArray⟩] w fun e w' => e = .returned (.tuple #[.string ⟨(l.dropWhile dec10).toArray⟩, .int .i64 ((l.takeWhile dec10).length)]) ∧ Below w.heap.size w w' := by
  have hT := Any.strings_TrimLeft_laid Tryz.lays161 (by kernel_rfl) ⟨l.toArray⟩ ⟨cs10.toArray⟩ w (by decide) (ascii_of_all (by decide))
  change Calls Tryz.prog 151 _ _ _ at hT
  have hl : l.length = (l.takeWhile dec10).length + (l.dropWhile dec10).length := by rw [← List.length_append, List.takeWhile_append_dropWhile]
  have hx : Lib.trimLeftS l cs10 = l.dropWhile dec10 := by unfold Lib.trimLeftS; rw [cs10_p]
  generalize hX : l.dropWhile dec10 = x at *
  generalize l.takeWhile dec10 = y at *
  have HX := Lib.hid hx
  clear hX hx
  go_enter Tryz.func143, Tryz.ntmps143
  go_wp2_with fail
  refine hT.mono ?_
  rw [show Lib.trimLeftS (⟨l.toArray⟩ : ByteArray).data.toList (⟨cs10.toArray⟩ : ByteArray).data.toList = x from HX.out]
  rintro e w1 ⟨rfl, hb⟩
  clear hT
  go_wp2_with fail
  go_ret2
  exact ⟨rfl, hb⟩
theorem all8_c (l : List UInt8) (w : World) (hs : l.length ≤ 1073741824) :
    Calls Tryz.prog 141 #[.string ⟨l.toArray⟩, .string ⟨#[48, 49, 50, 51, 52, 53, 54, 55]⟩] w fun e w' => e = .returned (.bool (allOf oct8 l)) ∧ Below w.heap.size w w' := by
  have h := all_c l cs8 w hs (by decide) (ascii_of_all (by decide))
  rw [cs8_p] at h
  exact h
theorem all10_c (l : List UInt8) (w : World) (hs : l.length ≤ 1073741824) :
    Calls Tryz.prog 141 #[.string ⟨l.toArray⟩, .string ⟨#[48, 49, 50, 51, 52, 53, 54, 55, 56, 57]⟩] w fun e w' => e = .returned (.bool (allOf dec10 l)) ∧ Below w.heap.size w w' := by
  have h := all_c l cs10 w hs (by decide) (ascii_of_all (by decide))
  rw [cs10_p] at h
  exact h
theorem all16_c (l : List UInt8) (w : World) (hs : l.length ≤ 1073741824) :
    Calls Tryz.prog 141 #[.string ⟨l.toArray⟩, .string ⟨#[48, 49, 50, 51, 52, 53, 54, 55, 56, 57, 97, 98, 99, 100, 101, 102, 65, 66, 67, 68, 69, 70]⟩] w fun e w' => e = .returned (.bool (allOf hex16 l)) ∧ Below w.heap.size w w' := by
  have h := all_c l cs16 w hs (by decide) (ascii_of_all (by decide))
  rw [cs16_p] at h
  exact h
theorem cut_yes (l p : List UInt8) (w : World) (h : p.isPrefixOf l = true) :
    Calls Tryz.prog 140 #[.string ⟨l.toArray⟩, .string ⟨p.toArray⟩] w fun e w' => e = .returned (.tuple #[.string ⟨(l.drop p.length).toArray⟩, .bool true]) ∧ w = w' := by
  refine (Tryz.strings_CutPrefix ⟨l.toArray⟩ ⟨p.toArray⟩ w).mono ?_
  rintro e w' ⟨rfl, rfl⟩
  have h1 : Lib.hasPrefix l p = true := h
  have h2 : Lib.trimPrefix l p = l.drop p.length := by rw [Lib.trimPrefix, if_pos h1]
  refine ⟨?_, rfl⟩
  show Ending.returned (.tuple #[.string ⟨(Lib.trimPrefix l p).toArray⟩, .bool (Lib.hasPrefix l p)]) = _
  rw [h1, h2]
theorem cut_no (l p : List UInt8) (w : World) (h : p.isPrefixOf l = false) :
    Calls Tryz.prog 140 #[.string ⟨l.toArray⟩, .string ⟨p.toArray⟩] w fun e w' => e = .returned (.tuple #[.string ⟨l.toArray⟩, .bool false]) ∧ w = w' := by
  refine (Tryz.strings_CutPrefix ⟨l.toArray⟩ ⟨p.toArray⟩ w).mono ?_
  rintro e w' ⟨rfl, rfl⟩
  have h1 : Lib.hasPrefix l p = false := h
  have h2 : Lib.trimPrefix l p = l := by rw [Lib.trimPrefix, if_neg (by rw [h1]; decide)]
  refine ⟨?_, rfl⟩
  show Ending.returned (.tuple #[.string ⟨(Lib.trimPrefix l p).toArray⟩, .bool (Lib.hasPrefix l p)]) = _
  rw [h1, h2]
theorem unsign_len (l : List UInt8) : (unsign l).length ≤ l.length := by
  rw [unsign_byt]
  split
  · rw [List.length_drop]; omega
  · exact Nat.le_refl _
set_option maxRecDepth 100000 in
set_option maxHeartbeats 1000000 in
theorem whole_c (l : List UInt8) (w : World) (hs : l.length ≤ 1073741824) :
    Calls Tryz.prog 103 #[.string ⟨l.toArray⟩] w fun e w' => e = .returned (.bool (wholeB l)) ∧ Below w.heap.size w w' := by
  have hd : (l.drop 2).length ≤ l.length := by rw [List.length_drop]; omega
  have hu := unsign_len l
  by_cases h1 : pre2 48 111 l = true
  · have h2 : wholeB l = allOf oct8 (l.drop 2) := by rw [wholeB, if_pos h1]
    rw [h2]
    have H1 := Lib.hid h1
    clear h1 h2
    go_enter Tryz.func103, Tryz.ntmps103
    go_wp2_with fail
    refine (cut_yes l [48, 111] _ H1.out).mono ?_
    rintro e w1 ⟨rfl, rfl⟩
    go_wp2_with fail
    refine (all8_c _ _ (by omega)).mono ?_
    rintro e w1 ⟨rfl, hb⟩
    go_wp2_with fail
    go_ret
    exact ⟨rfl, hb⟩
  · by_cases h3 : pre2 48 120 l = true
    · have h2 : wholeB l = allOf hex16 (l.drop 2) := by rw [wholeB, if_neg h1, if_pos h3]
      rw [h2]
      have H1 := Lib.hid (Bool.eq_false_iff.2 h1)
      have H3 := Lib.hid h3
      clear h1 h2 h3
      go_enter Tryz.func103, Tryz.ntmps103
      go_wp2_with fail
      refine (cut_no l [48, 111] _ H1.out).mono ?_
      rintro e w1 ⟨rfl, rfl⟩
      go_wp2_with fail
      refine (cut_yes l [48, 120] _ H3.out).mono ?_
      rintro e w1 ⟨rfl, rfl⟩
      go_wp2_with fail
      refine (all16_c _ _ (by omega)).mono ?_
      rintro e w1 ⟨rfl, hb⟩
      go_wp2_with fail
      go_ret
      exact ⟨rfl, hb⟩
    · have h2 : wholeB l = allOf dec10 (unsign l) := by rw [wholeB, if_neg h1, if_neg h3]
      rw [h2]
      have H1 := Lib.hid (Bool.eq_false_iff.2 h1)
      have H3 := Lib.hid (Bool.eq_false_iff.2 h3)
      clear h1 h2 h3
      go_enter Tryz.func103, Tryz.ntmps103
      go_wp2_with fail
      refine (cut_no l [48, 111] _ H1.out).mono ?_
      rintro e w1 ⟨rfl, rfl⟩
      go_wp2_with fail
      refine (cut_no l [48, 120] _ H3.out).mono ?_
      rintro e w1 ⟨rfl, rfl⟩
      go_wp2_with fail
      refine (unsigned_c l _ hs).mono ?_
      rintro e w1 ⟨rfl, rfl⟩
      go_wp2_with fail
      refine (all10_c _ _ (by omega)).mono ?_
      rintro e w1 ⟨rfl, hb⟩
      go_wp2_with fail
      go_ret
      exact ⟨rfl, hb⟩
set_option maxRecDepth 100000 in
set_option maxHeartbeats 1000000 in
theorem float_inf (l : List UInt8) (w : World) (hs : l.length ≤ 1073741824) (h : unsign l ∈ infs) :
    Calls Tryz.prog 104 #[.string ⟨l.toArray⟩] w fun e w' => e = .returned (.bool true) ∧ Below w.heap.size w w' := by
  simp only [infs, List.mem_cons, List.not_mem_nil, or_false] at h
  rcases h with h | h | h
  all_goals
    have H := Lib.hid h
    clear h
    go_enter Tryz.func104, Tryz.ntmps104
    go_wp2_with fail
    refine (unsigned_c l _ hs).mono ?_
    rw [H.out]
    rintro e w1 ⟨rfl, rfl⟩
    go_wp2_with fail
    go_ret
    exact ⟨rfl, Below.refl _ _⟩
theorem expo_byt (k : Nat) {r : List UInt8} (h : r ≠ []) : expo k r = if byt r 0 = 101 ∨ byt r 0 = 69 then (if allOf dec10 (unsign r.tail) = true then 2 else 0) else 0 := by
  cases r with
  | nil => exact absurd rfl h
  | cons b t =>
    have h1 : byt (b :: t) 0 = b.toNat := rfl
    have h43 : b = 101 ↔ b.toNat = 101 := ⟨fun h => by rw [h]; rfl, fun h => UInt8.toNat.inj h⟩
    have h45 : b = 69 ↔ b.toNat = 69 := ⟨fun h => by rw [h]; rfl, fun h => UInt8.toNat.inj h⟩
    rw [expo_cons, h1]
    simp only [h43, h45]
    rfl
theorem numR_yes (a : Bool) {r : List UInt8} (h : [46].isPrefixOf r = true) : numR a r = if a && ((r.drop 1).takeWhile dec10).isEmpty then 0 else expo 2 ((r.drop 1).dropWhile dec10) := by
  obtain ⟨t, ht⟩ := List.isPrefixOf_iff_prefix.1 h
  subst ht
  exact numR_cons a 46 t
theorem numR_no (a : Bool) {r : List UInt8} (h : [46].isPrefixOf r = false) (hr : r ≠ [] ∨ a = false) : numR a r = if a then 0 else expo 1 r := by
  cases r with
  | nil => rcases hr with hr | rfl
           · exact absurd rfl hr
           · rfl
  | cons b t =>
    rw [numR_cons, if_neg]
    rintro rfl
    simp [List.isPrefixOf] at h
theorem emp_len {α : Type} (y : List α) : y.isEmpty = decide (y.length = 0) := by cases y <;> simp
set_option maxRecDepth 100000 in
set_option maxHeartbeats 4000000 in
theorem float_num (l : List UInt8) (w : World) (hs : l.length ≤ 1073741824) (h : infs.contains (unsign l) = false) :
    Calls Tryz.prog 104 #[.string ⟨l.toArray⟩] w fun e w' => e = .returned (.bool (num (unsign l) != 0)) ∧ Below w.heap.size w w' := by
  have hu := unsign_len l
  generalize hU : unsign l = u at *
  have HU := Lib.hid hU
  clear hU
  obtain ⟨i1, i2, i3⟩ : (u == [46, 105, 110, 102]) = false ∧ (u == [46, 73, 110, 102]) = false ∧ (u == [46, 73, 78, 70]) = false := by
    simpa [infs] using h
  clear h
  have hn : num u = numR (u.takeWhile dec10).isEmpty (u.dropWhile dec10) := rfl
  have hlen : u.length = (u.takeWhile dec10).length + (u.dropWhile dec10).length := by rw [← List.length_append, List.takeWhile_append_dropWhile]
  have hD := digits_c u w (by omega)
  rw [emp_len] at hn
  generalize u.takeWhile dec10 = y at *
  generalize u.dropWhile dec10 = r at *
  have HN0 := Lib.hid hn
  clear hn
  go_enter Tryz.func104, Tryz.ntmps104
  go_wp2_with fail
  refine (unsigned_c l _ hs).mono ?_
  rw [HU.out]
  rintro e w1 ⟨rfl, rfl⟩
  go_wp2_with fail
  clear i1 i2 i3
  refine hD.mono ?_
  rintro e w1 ⟨rfl, hb⟩
  clear hD
  cases hp : [46].isPrefixOf r with
  | true =>
    have HP := Lib.hid hp
    have hn2 := numR_yes (decide (y.length = 0)) hp
    clear hp
    rw [emp_len] at hn2
    have hlen2 : (r.drop 1).length = ((r.drop 1).takeWhile dec10).length + ((r.drop 1).dropWhile dec10).length := by rw [← List.length_append, List.takeWhile_append_dropWhile]
    have hdl : (r.drop 1).length ≤ r.length := by rw [List.length_drop]; omega
    have hD := digits_c (r.drop 1) w1 (by omega)
    generalize hY2 : (r.drop 1).takeWhile dec10 = y2 at *
    generalize hR2 : (r.drop 1).dropWhile dec10 = r2 at *
    clear hY2 hR2
    go_wp2_with fail
    refine (cut_yes r [46] _ HP.out).mono ?_
    rintro e w2 ⟨rfl, rfl⟩
    generalize hR1 : r.drop [46].length = r1 at *
    clear hR1
    go_wp2_with fail
    refine hD.mono ?_
    rintro e w2 ⟨rfl, hb2⟩
    have hb := hb.trans (hb2.mono hb.size)
    clear hD hb2
    by_cases hz : y.length = 0 ∧ y2.length = 0
    · have hz1 : y.length + y2.length = 0 := by omega
      have HN : Hid (num u = 0) := Lib.hid (by rw [HN0.out, hn2, if_pos (by simp [hz])])
      clear hn2
      have e1 : ((y.length : Int) + (y2.length : Int) == 0) = true := by rw [beq_iff_eq]; omega
      clear hz hz1
      go_wp2_with fail
      go_ret
      exact ⟨ret_bool (by rw [HN.out]; rfl), hb⟩
    · have HN : Hid (num u = expo 2 r2) := Lib.hid (by rw [HN0.out, hn2, if_neg (by simpa using hz)])
      clear hn2
      have e1 : ((y.length : Int) + (y2.length : Int) == 0) = false := by rw [beq_eq_false_iff_ne]; omega
      clear hz
      by_cases hr0 : r2 = []
      · subst hr0
        go_wp2_with fail
        go_ret
        exact ⟨ret_bool (by rw [HN.out]; rfl), hb⟩
      have hemp := emp_no hr0
      have hp : 0 < r2.length := List.length_pos_iff.2 hr0
      have hx := expo_byt 2 hr0
      have hul := unsign_len r2.tail
      have hdl : r2.tail.length ≤ r2.length := by rw [List.length_tail]; omega
      have HXX := Lib.hid hx
      clear hx hr0
      by_cases h1 : byt r2 0 = 101
      · go_wp2_with fail
        refine (unsigned_c r2.tail _ (by omega)).mono ?_
        rintro e w3 ⟨rfl, rfl⟩
        go_wp2_with fail
        refine (all10_c _ _ (by omega)).mono ?_
        rintro e w3 ⟨rfl, hb3⟩
        go_wp2_with fail
        go_ret
        exact ⟨ret_bool (by rw [HN.out, HXX.out, if_pos (.inl h1)]; cases allOf dec10 (unsign r2.tail) <;> rfl), hb.trans (hb3.mono hb.size)⟩
      have e1 : ((byt r2 0 : Int) == 101) = false := by simp; omega
      have f1 : ((byt r2 0 : Int) != 101) = true := by simp; omega
      by_cases h2 : byt r2 0 = 69
      · go_wp2_with fail
        refine (unsigned_c r2.tail _ (by omega)).mono ?_
        rintro e w3 ⟨rfl, rfl⟩
        go_wp2_with fail
        refine (all10_c _ _ (by omega)).mono ?_
        rintro e w3 ⟨rfl, hb3⟩
        go_wp2_with fail
        go_ret
        exact ⟨ret_bool (by rw [HN.out, HXX.out, if_pos (.inr h2)]; cases allOf dec10 (unsign r2.tail) <;> rfl), hb.trans (hb3.mono hb.size)⟩
      have e2 : ((byt r2 0 : Int) == 69) = false := by simp; omega
      have f2 : ((byt r2 0 : Int) != 69) = true := by simp; omega
      go_wp2_with fail
      go_ret
      exact ⟨ret_bool (by rw [HN.out, HXX.out, if_neg (fun h => h.elim h1 h2)]; rfl), hb⟩
  | false =>
    have HP := Lib.hid hp
    clear hp
    go_wp2_with fail
    refine (cut_no r [46] _ HP.out).mono ?_
    rintro e w2 ⟨rfl, rfl⟩
    by_cases hz : y.length = 0
    · have HN : Hid (num u = 0) := Lib.hid (by
        rw [HN0.out]
        by_cases hr : r = []
        · subst hr; simp [numR_nil, hz]
        · rw [numR_no _ HP.out (.inl hr), if_pos (by simpa using hz)])
      have e1 : ((y.length : Int) == 0) = true := by rw [beq_iff_eq]; omega
      clear hz
      go_wp2_with fail
      go_ret
      exact ⟨ret_bool (by rw [HN.out]; rfl), hb⟩
    · have HN : Hid (num u = expo 1 r) := Lib.hid (by rw [HN0.out, numR_no _ HP.out (.inr (by simpa using hz)), if_neg (by simpa using hz)])
      have e1 : ((y.length : Int) == 0) = false := by rw [beq_eq_false_iff_ne]; omega
      clear hz
      by_cases hr0 : r = []
      · subst hr0
        go_wp2_with fail
        go_ret
        exact ⟨ret_bool (by rw [HN.out]; rfl), hb⟩
      have hemp := emp_no hr0
      have hp : 0 < r.length := List.length_pos_iff.2 hr0
      have hx := expo_byt 1 hr0
      have hul := unsign_len r.tail
      have hdl : r.tail.length ≤ r.length := by rw [List.length_tail]; omega
      have HXX := Lib.hid hx
      clear hx hr0
      by_cases h1 : byt r 0 = 101
      · go_wp2_with fail
        refine (unsigned_c r.tail _ (by omega)).mono ?_
        rintro e w3 ⟨rfl, rfl⟩
        go_wp2_with fail
        refine (all10_c _ _ (by omega)).mono ?_
        rintro e w3 ⟨rfl, hb3⟩
        go_wp2_with fail
        go_ret
        exact ⟨ret_bool (by rw [HN.out, HXX.out, if_pos (.inl h1)]; cases allOf dec10 (unsign r.tail) <;> rfl), hb.trans (hb3.mono hb.size)⟩
      have e1 : ((byt r 0 : Int) == 101) = false := by simp; omega
      have f1 : ((byt r 0 : Int) != 101) = true := by simp; omega
      by_cases h2 : byt r 0 = 69
      · go_wp2_with fail
        refine (unsigned_c r.tail _ (by omega)).mono ?_
        rintro e w3 ⟨rfl, rfl⟩
        go_wp2_with fail
        refine (all10_c _ _ (by omega)).mono ?_
        rintro e w3 ⟨rfl, hb3⟩
        go_wp2_with fail
        go_ret
        exact ⟨ret_bool (by rw [HN.out, HXX.out, if_pos (.inr h2)]; cases allOf dec10 (unsign r.tail) <;> rfl), hb.trans (hb3.mono hb.size)⟩
      have e2 : ((byt r 0 : Int) == 69) = false := by simp; omega
      have f2 : ((byt r 0 : Int) != 69) = true := by simp; omega
      go_wp2_with fail
      go_ret
      exact ⟨ret_bool (by rw [HN.out, HXX.out, if_neg (fun h => h.elim h1 h2)]; rfl), hb⟩
theorem float_c (l : List UInt8) (w : World) (hs : l.length ≤ 1073741824) :
    Calls Tryz.prog 104 #[.string ⟨l.toArray⟩] w fun e w' => e = .returned (.bool (floatB l)) ∧ Below w.heap.size w w' := by
  unfold floatB
  cases h : infs.contains (unsign l) with
  | true => exact float_inf l w hs (by simpa using h)
  | false => exact float_num l w hs h
end Go.Proofs.YtjfgcbikdibjeaaGreatDoor
