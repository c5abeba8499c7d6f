/- The walk of package fold's Flow: rows of a quoted or a plain scalar made one text. -/
import Derived.Test.YtjfgcbikdibjeaaGreatDoorWFold
import Derived.Test.YtjfgcbikdibjeaaGreatDoorPAllB
namespace Go.Proofs.YtjfgcbikdibjeaaGreatDoor
open Go.RowKit U Go.Proofs

theorem flowF_len : ∀ (xs : List (List UInt8)) (f : Bool) (b : Nat), (flowF xs f b).length ≤ sumL xs + b := by
  intro xs
  induction xs with
  | nil => intro f b; exact Nat.zero_le _
  | cons x t ih =>
    intro f b
    rw [flowF, sumL_cons]
    split
    · rename_i h
      have := ih false (b + 1)
      rw [h.1]
      simp only [List.length_nil]
      omega
    · have h0 := ih false 0
      have hg : (if f = true then ([] : List UInt8) else if b = 0 then [32] else List.replicate b 10).length ≤ b + 1 := by
        split
        · exact Nat.zero_le _
        · split
          · simp
          · simp
      simp only [List.length_append]
      omega
theorem sumL_mem : ∀ {xs : List (List UInt8)} {x : List UInt8}, x ∈ xs → x.length ≤ sumL xs := by
  intro xs
  induction xs with
  | nil => intro x h; cases h
  | cons y t ih =>
    intro x h
    rw [sumL_cons]
    rcases List.mem_cons.1 h with rfl | h
    · omega
    · have := ih h; omega
theorem sumL_length (xs : List (List UInt8)) : xs.length ≤ sumL xs := by
  induction xs with
  | nil => exact Nat.zero_le _
  | cons x t ih => rw [sumL_cons, List.length_cons]; omega
theorem flow_skip {x : List UInt8} {t : List (List UInt8)} {b : Nat} (hx : x = []) (ht : t ≠ []) : flowF (x :: t) false b = flowF t false (b + 1) := by rw [flowF, if_pos ⟨hx, rfl, ht⟩]
theorem flow_head (x : List UInt8) (t : List (List UInt8)) (b : Nat) : flowF (x :: t) true b = x ++ flowF t false 0 := by rw [flowF, if_neg (fun h => by cases h.2.1), if_pos rfl, List.nil_append]
theorem flow_go {x : List UInt8} {t : List (List UInt8)} {b : Nat} (h : ¬ (x = [] ∧ t ≠ [])) : flowF (x :: t) false b = gapM b ++ x ++ flowF t false 0 := by
  rw [flowF, if_neg (fun h' => h ⟨h'.1, h'.2.2⟩)]
  rfl
set_option maxRecDepth 100000 in
set_option maxHeartbeats 8000000 in
theorem fflow_c (v : Value) (xs : List (List UInt8)) (w : World) (h : Slc w v xs) (hs : sumL xs ≤ 10000000) :
    Calls Tryz.prog 71 #[v] w fun e w' => e = .returned (.string ⟨(flowM xs).toArray⟩) ∧ Below w.heap.size w w' := by
  have hF := flowF_len xs true 0
  obtain ⟨T, hT⟩ : ∃ T, T = flowM xs := ⟨_, rfl⟩
  rw [← hT]
  change (flowM xs).length ≤ _ at hF
  rw [← hT] at hF
  have HT : Hid (flowF xs true 0 = T) := Lib.hid hT.symm
  have HX : Hid (∀ x ∈ xs, x.length ≤ 10000000) := Lib.hid (fun x hx => Nat.le_trans (sumL_mem hx) hs)
  have hl := sumL_length xs
  obtain ⟨a, c, rfl, hc, hcells⟩ := h
  have HC := Lib.hid hcells
  clear hT hcells
  generalize hB : w.heap.size = B at *
  have hI0 : IsB B B [] (w.alloc (.cells #[.pointer none, .slice none 0 0] 78)) := by subst hB; exact Lib.IsBuilderF.of (Lib.fresh_isBuilder 78 5 w)
  have hBA : Below B w (w.alloc (.cells #[.pointer none, .slice none 0 0] 78)) := by subst hB; exact (Below.refl _ _).alloc (Nat.le_refl _) _
  have hBz : B < (w.alloc (.cells #[.pointer none, .slice none 0 0] 78)).heap.size := by subst hB; simp
  have HBB := Lib.hid hB
  go_enter Tryz.func71, Tryz.ntmps71
  go_wp2_with fail
  generalize w.alloc (.cells #[.pointer none, .slice none 0 0] 78) = w0 at *
  clear hB HBB
  go_loopw [4, 9] (fun s4 s9 wr => ∃ (k b : Nat) (acc : List UInt8), k ≤ xs.length ∧ b ≤ k ∧ s9 = .int .i64 k ∧ s4 = .int .i64 b ∧ acc.length ≤ 10000000 ∧ IsB B B acc wr ∧ Below B w wr ∧ B < wr.heap.size ∧ Hid (acc ++ flowF (xs.drop k) (decide (k = 0)) b = T)) (fun _ s9 _ => xs.length - (intOf s9).toNat)
  case atStart => exact ⟨0, 0, [], Nat.zero_le _, Nat.le_refl _, rfl, rfl, by decide, hI0, hBA, hBz, Lib.hid HT.out⟩
  case round =>
    obtain ⟨k, b, acc, hk, hbk, rfl, rfl, hal, hI, hbw, hz, HR⟩ := hrel
    by_cases hlt : k < xs.length
    · obtain ⟨bb, off, rfl, hbb, hcl⟩ := HC.out k hlt
      have hcl2 := (hbw.cell (p := ⟨bb, off + k, none⟩) hbb).trans hcl
      have hxl := HX.out _ (List.getElem_mem hlt)
      have hdr : xs.drop k = xs[k]'hlt :: xs.drop (k + 1) := List.drop_eq_getElem_cons hlt
      have hdn : xs.drop (k + 1) ≠ [] ↔ k + 1 < xs.length := by
        rw [Ne, List.drop_eq_nil_iff]
        omega
      obtain ⟨x, he⟩ : ∃ x, xs[k]'hlt = x := ⟨_, rfl⟩
      rw [he] at hcl2 hdr hxl
      have HD := Lib.hid hdr
      have HN := Lib.hid hdn
      clear hdr he hcl hbb hdn
      have HI := Lib.hid hI
      clear hI
      by_cases hk0 : k = 0
      · obtain rfl := hk0
        obtain rfl : b = 0 := by omega
        have HR1 : Hid (acc ++ (x ++ flowF (xs.drop (0 + 1)) false 0) = T) := Lib.hid (by
          have h1 := HR.out
          rw [HD.out, show decide (0 = 0) = true from rfl, flow_head] at h1
          exact h1)
        have hsl : acc.length + x.length ≤ T.length := by
          rw [← HR1.out]
          simp only [List.length_append]
          omega
        clear HR HD HN
        rw [Nat.add_zero] at hcl2
        by_cases hx : x = []
        · subst hx
          go_wp2_with fail
          refine (bldStr_c B B acc [] _ HI.out (by simp only [List.length_nil]; omega) (by omega)).mono ?_
          rintro e w3 ⟨n3, rfl, h3, b3, _⟩
          go_wp2_with fail
          go_round
          case rel => exact ⟨0 + 1, 0, acc ++ [], by omega, by omega, by go_num, rfl, by simp only [List.length_append, List.length_nil]; omega, h3.is, hbw.trans b3, Nat.lt_of_lt_of_le hz b3.size, Lib.hid (by rw [← HR1.out]; simp)⟩
          case measure => simp [intOf]; omega
        · have gx : x.isEmpty = false := by cases x with | nil => exact absurd rfl hx | cons _ _ => rfl
          have gx2 : (x == []) = false := by cases x with | nil => exact absurd rfl hx | cons _ _ => rfl
          clear hx
          go_wp2_with fail
          refine (bldStr_c B B acc x _ HI.out (by omega) (by omega)).mono ?_
          rintro e w3 ⟨n3, rfl, h3, b3, _⟩
          go_wp2_with fail
          go_round
          case rel => exact ⟨0 + 1, 0, acc ++ x, by omega, by omega, by go_num, rfl, by simp only [List.length_append]; omega, h3.is, hbw.trans b3, Nat.lt_of_lt_of_le hz b3.size, Lib.hid (by rw [← HR1.out]; simp)⟩
          case measure => simp [intOf]; omega
      have hk1 : 0 < (k : Int) := by omega
      have hfd : decide (k = 0) = false := decide_eq_false hk0
      rw [hfd] at HR
      clear hfd hk0
      by_cases hx : x = []
      · by_cases hn : k + 1 < xs.length
        · have HR2 : Hid (acc ++ flowF (xs.drop (k + 1)) (decide (k + 1 = 0)) (b + 1) = T) := Lib.hid (by
            have h1 := HR.out
            rw [HD.out, flow_skip hx (HN.out.2 hn)] at h1
            exact h1)
          subst hx
          have hn1 : (k : Int) < (xs.length : Int) - 1 := by omega
          clear HR HD HN
          go_wp2_with fail
          go_round
          case rel => exact ⟨k + 1, b + 1, acc, by omega, by omega, by go_num, by go_num, hal, HI.out, hbw, hz, HR2⟩
          case measure => simp [intOf]; omega
        · have HR1 : Hid (acc ++ (gapM b ++ x ++ flowF (xs.drop (k + 1)) false 0) = T) := Lib.hid (by
            have h1 := HR.out
            rw [HD.out, flow_go (fun h => hn (HN.out.1 h.2))] at h1
            exact h1)
          subst hx
          have hn1 : ¬ (k : Int) < (xs.length : Int) - 1 := by omega
          clear HR HD HN
          have hG := fun w => gap_c b w (by omega)
          have hsl : acc.length + (gapM b).length + ([] : List UInt8).length ≤ T.length := by
            rw [← HR1.out]
            simp only [List.length_append]
            omega
          generalize gapM b = sp at *
          go_wp2_with fail
          refine (hG _).mono ?_
          rintro e w1 ⟨rfl, b1⟩
          have hI1 := isB_after HI.out b1
          have hbw1 := hbw.trans (b1.mono (Nat.le_of_lt hz))
          have hz1 := Nat.lt_of_lt_of_le hz b1.size
          clear b1
          go_wp2_with fail
          refine (bldStr_c B B acc sp _ hI1 (by omega) (by omega)).mono ?_
          rintro e w2 ⟨n2, rfl, h2, b2, _⟩
          have hI2 := h2.is
          have hbw2 := hbw1.trans b2
          have hz2 := Nat.lt_of_lt_of_le hz1 b2.size
          clear h2 b2
          go_wp2_with fail
          refine (bldStr_c B B (acc ++ sp) [] _ hI2 (by simp only [List.length_append, List.length_nil]; omega) (by omega)).mono ?_
          rintro e w3 ⟨n3, rfl, h3, b3, _⟩
          go_wp2_with fail
          go_round
          case rel => exact ⟨k + 1, 0, acc ++ sp ++ [], by omega, by omega, by go_num, rfl, by simp only [List.length_append, List.length_nil]; omega, h3.is, hbw2.trans b3, Nat.lt_of_lt_of_le hz2 b3.size, Lib.hid (by rw [← HR1.out, show decide (k + 1 = 0) = false from rfl]; simp)⟩
          case measure => simp [intOf]; omega
      · have HR1 : Hid (acc ++ (gapM b ++ x ++ flowF (xs.drop (k + 1)) false 0) = T) := Lib.hid (by
          have h1 := HR.out
          rw [HD.out, flow_go (fun h => hx h.1)] at h1
          exact h1)
        have gx : x.isEmpty = false := by cases x with | nil => exact absurd rfl hx | cons _ _ => rfl
        have gx2 : (x == []) = false := by cases x with | nil => exact absurd rfl hx | cons _ _ => rfl
        clear HR HD HN hx
        have hG := fun w => gap_c b w (by omega)
        have hsl : acc.length + (gapM b).length + (x : List UInt8).length ≤ T.length := by
          rw [← HR1.out]
          simp only [List.length_append]
          omega
        generalize gapM b = sp at *
        go_wp2_with fail
        refine (hG _).mono ?_
        rintro e w1 ⟨rfl, b1⟩
        have hI1 := isB_after HI.out b1
        have hbw1 := hbw.trans (b1.mono (Nat.le_of_lt hz))
        have hz1 := Nat.lt_of_lt_of_le hz b1.size
        clear b1
        go_wp2_with fail
        refine (bldStr_c B B acc sp _ hI1 (by omega) (by omega)).mono ?_
        rintro e w2 ⟨n2, rfl, h2, b2, _⟩
        have hI2 := h2.is
        have hbw2 := hbw1.trans b2
        have hz2 := Nat.lt_of_lt_of_le hz1 b2.size
        clear h2 b2
        go_wp2_with fail
        refine (bldStr_c B B (acc ++ sp) x _ hI2 (by simp only [List.length_append]; omega) (by omega)).mono ?_
        rintro e w3 ⟨n3, rfl, h3, b3, _⟩
        go_wp2_with fail
        go_round
        case rel => exact ⟨k + 1, 0, acc ++ sp ++ x, by omega, by omega, by go_num, rfl, by simp only [List.length_append]; omega, h3.is, hbw2.trans b3, Nat.lt_of_lt_of_le hz2 b3.size, Lib.hid (by rw [← HR1.out, show decide (k + 1 = 0) = false from rfl]; simp)⟩
        case measure => simp [intOf]; omega
    · obtain rfl : k = xs.length := by omega
      have HR2 : Hid (acc = T) := Lib.hid (by
        have h1 := HR.out
        rw [List.drop_length, flowF, List.append_nil] at h1
        exact h1)
      clear HR HC HX
      have HI := Lib.hid hI
      clear hI
      go_wp2_with fail
      refine (Tryz.Builder_String_any_k B B _ _ HI.out (by omega)).mono ?_
      rintro e w1 ⟨rfl, _, b1, _⟩
      go_wp2_with fail
      go_ret
      exact ⟨ret_str HR2.out, hbw.trans b1⟩
end Go.Proofs.YtjfgcbikdibjeaaGreatDoor
