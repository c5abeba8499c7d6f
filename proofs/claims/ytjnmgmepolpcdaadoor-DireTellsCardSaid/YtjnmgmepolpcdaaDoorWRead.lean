/- The walk of dire.Read. -/
import Derived.Test.YtjnmgmepolpcdaaDoorWRight
import Derived.Deep.RegionHeld3
namespace Go.Proofs.YtjnmgmepolpcdaaDoor
open Go.RowKit Go.Shelf U Go.Proofs

theorem wordsF_ne : ∀ (l cur : List UInt8), ∀ x ∈ wordsF cur l, 0 < x.length := by
  intro l
  induction l with
  | nil =>
    intro cur x hx
    rw [wordsF] at hx
    cases cur with
    | nil => simp at hx
    | cons b t => simp at hx; subst hx; simp
  | cons b t ih =>
    intro cur x hx
    rw [wordsF] at hx
    split at hx
    · split at hx
      · exact ih _ x hx
      · rename_i hc
        rw [List.mem_cons] at hx
        rcases hx with rfl | hx
        · cases x with
          | nil => simp at hc
          | cons a u => simp
        · exact ih _ x hx
    · exact ih _ x hx
/-- It returns a text's words, in memory of its own. -/
def WordsRet (l : List UInt8) (w : World) (e : Ending) (w' : World) : Prop :=
  ∃ A, e = .returned (.slice (some ⟨A, 0, none⟩) (wordsM l).length (wordsM l).length) ∧ Sl w' (.slice (some ⟨A, 0, none⟩) (wordsM l).length (wordsM l).length) (strs (wordsM l)) ∧ Below w.heap.size w w'
theorem words2_c (l : List UInt8) (w : World) (hs : l.length ≤ 1073741824) : Calls Tryd.prog 54 #[.string ⟨l.toArray⟩] w (WordsRet l w) := by
  have hF := Tryd.strings_FieldsFunc_grows 76 #[] (fun _ _ => by kernel_rfl) whN ⟨l.toArray⟩ w (by rw [size_mk]; omega) (fun W x hx _ => (words1_c x W hx).mono fun e w' h => ⟨h.1, h.2 ▸ Below.refl _ _⟩)
  rw [fields_words] at hF
  have hm : ((wordsM l).map fun x => (⟨x.toArray⟩ : ByteArray)).map Value.string = strs (wordsM l) := by simp [strs]
  rw [hm, List.length_map] at hF
  go_enter Tryd.func54, Tryd.ntmps54
  go_wp2_with fail
  refine hF.mono ?_
  rintro e w1 ⟨A, rfl, _, hown, hb⟩
  clear hF
  go_wp2_with fail
  go_ret
  exact ⟨A, rfl, Sl.own hown, hb⟩
/-- Words with a blank between. -/
def joinW (ws : List (List UInt8)) : List UInt8 := Lib.join ws [32]
theorem join_len (m : Nat) : ∀ ws : List (List UInt8), (∀ x ∈ ws, x.length ≤ m) → (joinW ws).length ≤ ws.length * (m + 1) := by
  intro ws
  induction ws with
  | nil => intro _; simp [joinW, Lib.join]
  | cons a ws ih =>
    intro h
    have h1 := ih (fun x hx => h x (by simp [hx]))
    have h2 := h a (by simp)
    cases ws with
    | nil => simp [joinW, Lib.join]; omega
    | cons b t =>
      have : joinW (a :: b :: t) = a ++ [32] ++ joinW (b :: t) := by simp [joinW, Lib.join, List.intercalate, List.intersperse]
      rw [this]
      simp only [List.length_append, List.length_cons, List.length_nil] at *
      rw [Nat.add_mul] 
      omega
theorem join_c (ws : List (List UInt8)) (A n c : Nat) (w : World) (hn : n = ws.length) (hc : n ≤ c) (hv : Sl w (.slice (some ⟨A, 0, none⟩) n c) (strs ws)) (h1 : ws.length ≤ 1000001) (hx : ∀ x ∈ ws, x.length ≤ 1000000) (hne : 0 < ws.length) :
    Calls Tryd.prog 56 #[.slice (some ⟨A, 0, none⟩) n c, .string ⟨#[32]⟩] w fun e w' => e = .returned (.string ⟨(joinW ws).toArray⟩) ∧ Below w.heap.size w w' := by
  subst hn
  obtain ⟨ad, c', he, hcell⟩ := Sl.strs' hv
  obtain ⟨b, off, h2, hlt, _⟩ := hcell 0 hne
  injection he with he1 _ he2
  subst he1 he2
  simp only [Option.some.injEq, Addr.mk.injEq, and_true] at h2
  obtain ⟨rfl, rfl⟩ := h2
  have hj := join_len 1000000 ws hx
  have hmap : ((ws.map fun x => (⟨x.toArray⟩ : ByteArray)).map (·.data.toList)) = ws := by
    rw [List.map_map]
    exact (List.map_congr_left (fun x _ => rfl)).trans (List.map_id _)
  have hJ := Tryd.strings_Join A 0 c (ws.map fun x => (⟨x.toArray⟩ : ByteArray)) ⟨#[32]⟩ w (fun j x hjx => by
    rw [List.getElem?_map] at hjx
    obtain ⟨y, hy, rfl⟩ := Option.map_eq_some_iff.1 hjx
    obtain ⟨hi, rfl⟩ := List.getElem?_eq_some_iff.1 hy
    obtain ⟨b2, off2, h3, _, h4⟩ := hcell j hi
    simp only [Option.some.injEq, Addr.mk.injEq, and_true] at h3
    obtain ⟨rfl, rfl⟩ := h3
    exact h4) hlt (by simp; omega) (by simpa using hc) (by
      rw [hmap]
      have : ws.length * (1000000 + 1) ≤ 1000001 * (1000000 + 1) := Nat.mul_le_mul_right _ h1
      exact Nat.le_trans hj (by omega))
  rw [hmap, List.length_map] at hJ
  exact hJ
def white2 : List UInt8 := [32, 9]
theorem trimR_c (l : List UInt8) (w0 w : World) (hA : At w0 w) (hs : l.length ≤ 1073741824) :
    Calls Tryd.prog 53 #[.string ⟨l.toArray⟩, .string ⟨#[32, 9]⟩] w fun e w' => e = .returned (.string ⟨(Lib.trimRightS l white2).toArray⟩) ∧ At w0 w' := by
  have hT := Any.strings_TrimRight_laid Tryd.lays162 (by kernel_rfl) ⟨l.toArray⟩ ⟨white2.toArray⟩ w (by rw [size_mk]; omega) (by decide) (ascii_of_all (by decide))
  refine Calls.mono (show Calls Tryd.prog 53 _ _ _ from hT) ?_
  rintro e w' ⟨rfl, hb⟩
  exact ⟨rfl, hA.step hb⟩
/-- A directive's row: its words, its comment, has it one; what is wrong. -/
def restM (body text : List UInt8) (b : Bool) : List UInt8 × List UInt8 × Bool × Int :=
  if rightM (wordsM body) then (joinW (wordsM body), text, b, 0) else ([], [], false, 5)
def readM (l : List UInt8) : List UInt8 × List UInt8 × Bool × Int :=
  if l = [] ∨ byt l 0 ≠ 37 then ([], [], false, 5)
  else if 0 ≤ commentM l then restM (l.take (commentM l).toNat) (Lib.trimRightS (l.drop ((commentM l).toNat + 1)) white2) true else restM l [] false
set_option maxRecDepth 100000 in
set_option maxHeartbeats 8000000 in
theorem read_c (l : List UInt8) (w : World) (hE : Env w) (hs : l.length ≤ 1000000) :
    Calls Tryd.prog 33 #[.string ⟨l.toArray⟩] w fun e w' => e = .returned (.tuple #[.string ⟨(readM l).1.toArray⟩, .string ⟨(readM l).2.1.toArray⟩, .bool (readM l).2.2.1, .int .i64 (readM l).2.2.2]) ∧ Below w.heap.size w w' := by
  have hA := At.refl hE
  have hC := fun w hA => comment_c l w (At.env (w0 := w) hA) (by omega)
  have hcr := comment_range l
  by_cases h0 : l = []
  · have HR : Hid (readM l = ([], [], false, 5)) := Lib.hid (by rw [readM, if_pos (.inl h0)])
    have HR0 := HR
    subst h0
    generalize commentM [] = cm at *
    go_enter Tryd.func33, Tryd.ntmps33
    go_wp2_with fail
    refine (hC _ hA).mono ?_
    rintro e w1 ⟨rfl, hb⟩
    have hA := hA.step hb
    clear hb
    go_wp2_with fail
    exact bodyPost_ret (v := .tuple #[.string ⟨#[]⟩, .string ⟨#[]⟩, .bool false, .int .i64 5]) (by simp [results, Tryd.results33, go_sem]) rfl ⟨by rw [HR.out], hA.below⟩
  have hemp := emp_no h0
  have hp : 0 < l.length := List.length_pos_iff.2 h0
  by_cases h37 : byt l 0 = 37
  · have g37 : ((byt l 0 : Int) != 37) = false := by simp; omega
    rcases hcr with hcr | ⟨i, hcr, hni⟩
    · have hR : readM l = if rightM (wordsM l) then (joinW (wordsM l), [], false, 0) else ([], [], false, 5) := by
        rw [readM, if_neg (fun h => h.elim h0 (fun h => h h37)), hcr, if_neg (by decide)]
        rfl
      rw [hcr] at hC
      clear h37 hcr
      have hwl := wordsF_len l []
      have hwn := wordsF_ne l []
      have hW := fun w => words2_c l w (by omega)
      unfold WordsRet at hW
      have hwl1 : (wordsM l).length ≤ 1000001 := by have := hwl.1; unfold wordsM; omega
      have hwx : ∀ x ∈ wordsM l, x.length ≤ 1000000 := fun x hx => by have := hwl.2 x hx; simp at this; omega
      have hwn : ∀ x ∈ wordsM l, 0 < x.length := hwn
      clear hwl
      generalize wordsM l = ws at *
      have HWX := Lib.hid hwx
      have HWN := Lib.hid hwn
      have hJ0 : rightM ws = true → 0 < ws.length := fun h => by
        rcases Nat.eq_zero_or_pos ws.length with h0 | h0
        · rw [rightM, if_pos (.inl h0)] at h; cases h
        · exact h0
      have hRC := fun v w hv => right_c ws v w hv (by omega) (fun x hx => ⟨hwn x hx, by have := hwx x hx; omega⟩)
      have HJC := Lib.hid (fun A w hv hne => join_c ws A ws.length ws.length w rfl (Nat.le_refl _) hv hwl1 hwx hne)
      clear hwx hwn
      generalize joinW ws = jn at *
      cases hq : rightM ws with
      | true =>
        have HJ0 := Lib.hid (hJ0 hq)
        rw [hq] at hRC hR
        have HR : Hid (readM l = (jn, [], false, 0)) := Lib.hid (by rw [hR]; rfl)
        clear hR hJ0 hq
        go_enter Tryd.func33, Tryd.ntmps33
        go_wp2_with fail
        refine (hC _ hA).mono ?_
        rintro e w1 ⟨rfl, hb⟩
        have hA := hA.step hb
        clear hb
        go_wp2_with fail
        refine (hW _).mono ?_
        rintro e w2 ⟨A, rfl, hsl, hb⟩
        have hA := hA.step hb
        clear hb
        go_wp2_with fail
        refine (hRC _ _ hsl).mono ?_
        rintro e w3 ⟨rfl, hb⟩
        have hA := hA.step hb
        have hsl := hsl.below hb
        clear hb
        go_wp2_with fail
        refine (HJC.out A _ hsl HJ0.out).mono ?_
        rintro e w4 ⟨rfl, hb⟩
        have hA := hA.step hb
        clear hb
        go_wp2_with fail
        exact bodyPost_ret (v := .tuple #[.string ⟨jn.toArray⟩, .string ⟨([]).toArray⟩, .bool false, .int .i64 0]) (by simp [results, Tryd.results33, go_sem]) rfl ⟨by rw [HR.out], hA.below⟩
      | false =>
        rw [hq] at hRC hR
        have HR : Hid (readM l = ([], [], false, 5)) := Lib.hid (by rw [hR]; rfl)
        clear hR hJ0 hq HJC
        go_enter Tryd.func33, Tryd.ntmps33
        go_wp2_with fail
        refine (hC _ hA).mono ?_
        rintro e w1 ⟨rfl, hb⟩
        have hA := hA.step hb
        clear hb
        go_wp2_with fail
        refine (hW _).mono ?_
        rintro e w2 ⟨A, rfl, hsl, hb⟩
        have hA := hA.step hb
        clear hb
        go_wp2_with fail
        refine (hRC _ _ hsl).mono ?_
        rintro e w3 ⟨rfl, hb⟩
        have hA := hA.step hb
        have hsl := hsl.below hb
        clear hb
        go_wp2_with fail
        exact bodyPost_ret (v := .tuple #[.string ⟨#[]⟩, .string ⟨#[]⟩, .bool false, .int .i64 5]) (by simp [results, Tryd.results33, go_sem]) rfl ⟨by rw [HR.out], hA.below⟩
    · have hil := hni.2.1
      have hR : readM l = if rightM (wordsM (l.take i)) then (joinW (wordsM (l.take i)), Lib.trimRightS (l.drop (i + 1)) white2, true, 0) else ([], [], false, 5) := by
        rw [readM, if_neg (fun h => h.elim h0 (fun h => h h37)), hcr, if_pos (by omega)]
        rfl
      rw [hcr] at hC
      have hT := fun W hA => trimR_c (l.drop (i + 1)) w W hA (by rw [List.length_drop]; omega)
      have htl : (l.take i).length ≤ l.length := by rw [List.length_take]; omega
      clear h37 hcr hni
      generalize Lib.trimRightS (l.drop (i + 1)) white2 = tx at *
      have hw1 : IntKind.i64.wrap ((i : Int) + 1) = (i : Int) + 1 := IntWalk.i64_in _ (by omega)
      have hw2 : ((i : Int) + 1).toNat = i + 1 := by clear hw1; omega
      have hw3 : (0 : Int) ≤ (i : Int) + 1 := by clear hw1 hw2; omega
      have hw4 : (0 : Int) ≤ (i : Int) := by clear hw1 hw2 hw3; omega
      have hw5 : (i : Int) ≤ (l.length : Int) := by clear hw1 hw2 hw3; omega
      have hw6 : (i : Int) + 1 ≤ (l.length : Int) := by clear hw1 hw2 hw3; omega
      have HWS := Lib.hid (And.intro hw1 (And.intro hw2 hw3))
      clear hw1 hw2 hw3
      have hwl := wordsF_len (l.take i) []
      have hwn := wordsF_ne (l.take i) []
      have hW := fun w => words2_c (l.take i) w (by omega)
      unfold WordsRet at hW
      have hwl1 : (wordsM (l.take i)).length ≤ 1000001 := by have := hwl.1; unfold wordsM; omega
      have hwx : ∀ x ∈ wordsM (l.take i), x.length ≤ 1000000 := fun x hx => by have := hwl.2 x hx; simp at this; omega
      have hwn : ∀ x ∈ wordsM (l.take i), 0 < x.length := hwn
      clear hwl
      generalize wordsM (l.take i) = ws at *
      have HWX := Lib.hid hwx
      have HWN := Lib.hid hwn
      have hJ0 : rightM ws = true → 0 < ws.length := fun h => by
        rcases Nat.eq_zero_or_pos ws.length with h0 | h0
        · rw [rightM, if_pos (.inl h0)] at h; cases h
        · exact h0
      have hRC := fun v w hv => right_c ws v w hv (by omega) (fun x hx => ⟨hwn x hx, by have := hwx x hx; omega⟩)
      have HJC := Lib.hid (fun A w hv hne => join_c ws A ws.length ws.length w rfl (Nat.le_refl _) hv hwl1 hwx hne)
      clear hwx hwn
      generalize joinW ws = jn at *
      cases hq : rightM ws with
      | true =>
        have HJ0 := Lib.hid (hJ0 hq)
        rw [hq] at hRC hR
        have HR : Hid (readM l = (jn, tx, true, 0)) := Lib.hid (by rw [hR]; rfl)
        clear hR hJ0 hq
        go_enter Tryd.func33, Tryd.ntmps33
        go_wp2_with fail
        refine (hC _ hA).mono ?_
        rintro e w1 ⟨rfl, hb⟩
        have hA := hA.step hb
        clear hb
        go_wp2_with fail
        obtain ⟨hw1, hw2, hw3⟩ := HWS.out
        go_region_held3 (fun w2 => At w w2) (first | assumption | exact At.drewN (by assumption) 1) (first | (go_at_call 53; (with_reducible refine (hT _ (by assumption)).mono ?_); rintro e w3 ⟨rfl, hA3⟩))
        clear hw1 hw2 hw3
        have hA : At w _ := (by assumption)
        go_wp2_with fail
        refine (hW _).mono ?_
        rintro e w2 ⟨A, rfl, hsl, hb⟩
        have hA := hA.step hb
        clear hb
        go_wp2_with fail
        refine (hRC _ _ hsl).mono ?_
        rintro e w3 ⟨rfl, hb⟩
        have hA := hA.step hb
        have hsl := hsl.below hb
        clear hb
        go_wp2_with fail
        refine (HJC.out A _ hsl HJ0.out).mono ?_
        rintro e w4 ⟨rfl, hb⟩
        have hA := hA.step hb
        clear hb
        go_wp2_with fail
        exact bodyPost_ret (v := .tuple #[.string ⟨jn.toArray⟩, .string ⟨(tx).toArray⟩, .bool true, .int .i64 0]) (by simp [results, Tryd.results33, go_sem]) rfl ⟨by rw [HR.out], hA.below⟩
      | false =>
        rw [hq] at hRC hR
        have HR : Hid (readM l = ([], [], false, 5)) := Lib.hid (by rw [hR]; rfl)
        clear hR hJ0 hq HJC
        go_enter Tryd.func33, Tryd.ntmps33
        go_wp2_with fail
        refine (hC _ hA).mono ?_
        rintro e w1 ⟨rfl, hb⟩
        have hA := hA.step hb
        clear hb
        go_wp2_with fail
        obtain ⟨hw1, hw2, hw3⟩ := HWS.out
        go_region_held3 (fun w2 => At w w2) (first | assumption | exact At.drewN (by assumption) 1) (first | (go_at_call 53; (with_reducible refine (hT _ (by assumption)).mono ?_); rintro e w3 ⟨rfl, hA3⟩))
        clear hw1 hw2 hw3
        have hA : At w _ := (by assumption)
        go_wp2_with fail
        refine (hW _).mono ?_
        rintro e w2 ⟨A, rfl, hsl, hb⟩
        have hA := hA.step hb
        clear hb
        go_wp2_with fail
        refine (hRC _ _ hsl).mono ?_
        rintro e w3 ⟨rfl, hb⟩
        have hA := hA.step hb
        have hsl := hsl.below hb
        clear hb
        go_wp2_with fail
        exact bodyPost_ret (v := .tuple #[.string ⟨#[]⟩, .string ⟨#[]⟩, .bool false, .int .i64 5]) (by simp [results, Tryd.results33, go_sem]) rfl ⟨by rw [HR.out], hA.below⟩
  · have g37 : ((byt l 0 : Int) != 37) = true := by simp; omega
    have HR : Hid (readM l = ([], [], false, 5)) := Lib.hid (by rw [readM, if_pos (.inr h37)])
    clear h37
    generalize commentM l = cm at *
    go_enter Tryd.func33, Tryd.ntmps33
    go_wp2_with fail
    refine (hC _ hA).mono ?_
    rintro e w1 ⟨rfl, hb⟩
    have hA := hA.step hb
    clear hb
    go_wp2_with fail
    exact bodyPost_ret (v := .tuple #[.string ⟨#[]⟩, .string ⟨#[]⟩, .bool false, .int .i64 5]) (by simp [results, Tryd.results33, go_sem]) rfl ⟨by rw [HR.out], hA.below⟩
end Go.Proofs.YtjnmgmepolpcdaaDoor
