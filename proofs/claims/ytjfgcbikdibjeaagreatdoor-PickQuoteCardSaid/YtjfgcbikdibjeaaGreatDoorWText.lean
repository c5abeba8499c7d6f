/- The walk of utfs.Text. -/
import Derived.Test.YtjfgcbikdibjeaaGreatDoorBldRune
namespace Go.Proofs.YtjfgcbikdibjeaaGreatDoor
open Go.RowKit U Go.Proofs

/-- Numbers that fit a rune. -/
def I32 (xs : List Int) : Prop := ∀ x ∈ xs, -2147483648 ≤ x ∧ x ≤ 2147483647

set_option maxRecDepth 100000 in
set_option maxHeartbeats 1000000 in
theorem text_c (xs : List Int) (v : Value) (w : World) (hv : Sl w v (i32s xs)) (hx32 : I32 xs) (hs : xs.length ≤ 134217728) :
    Calls Tryz.prog 29 #[v] w fun e w' => e = .returned (.string ⟨(enc xs).toArray⟩) ∧ Below w.heap.size w w' := by
  obtain ⟨a, c, rfl, hcell⟩ := Sl.ints (k := .i32) hv
  have HC := Lib.hid hcell
  clear hcell hv
  go_enter Tryz.func29, Tryz.ntmps29
  go_wp2
  go_loopw [8] (fun i wr => ∃ k : Nat, k ≤ xs.length ∧ i = .int .i64 k ∧ IsB w.heap.size w.heap.size (enc (xs.take k)) wr ∧ Below w.heap.size w wr) (fun i _ => xs.length - (intOf i).toNat)
  case atStart =>
    exact ⟨0, Nat.zero_le _, rfl, Lib.IsBuilderF.of (Lib.fresh_isBuilder 78 5 w), (Below.refl _ w).alloc (Nat.le_refl _) _⟩
  case round =>
    obtain ⟨k, hk, rfl, hI, hbw⟩ := hrel
    have hel := enc_le (xs.take k)
    rw [List.length_take_of_le hk] at hel
    have hsz := hbw.size
    by_cases hlt : k < xs.length
    · obtain ⟨b, off, rfl, hb, hck0⟩ := HC.out k hlt
      have hck : wr.cell? ⟨b, off + k, none⟩ = some (.int .i32 (xs[k]'hlt)) := (hbw.cell (p := ⟨b, off + k, none⟩) hb).trans hck0
      have hr := hx32 (xs[k]'hlt) (List.getElem_mem hlt)
      have hsn : enc (xs.take (k + 1)) = enc (xs.take k) ++ Lib.encodeRune (xs[k]'hlt) := by
        rw [List.take_succ_eq_append_getElem hlt, enc_snoc]
      have HS := Lib.hid hsn
      clear hsn hck0 HC
      generalize hX : (xs[k]'hlt) = x at *
      clear hX
      obtain ⟨hr0, hr1⟩ := hr
      have HX32 := Lib.hid hx32
      clear hx32
      go_wp2_with (go_at_call 62; refine (bldRune_c w.heap.size w.heap.size _ x hr0 hr1 _ hI (by omega) hsz).mono ?_; rintro e w1 ⟨n1, rfl, h1, hb1, _⟩)
      refine ⟨⟨k + 1, by omega, by go_num, by rw [HS.out]; exact h1.is, hbw.trans hb1⟩, ?_⟩
      simp [intOf]; omega
    · go_wp2_with (go_at_call 63; refine (Tryz.Builder_String_any_k w.heap.size w.heap.size _ _ hI hsz).mono ?_; rintro e w1 ⟨rfl, _, hb1, _⟩)
      go_ret
      obtain rfl : k = xs.length := by omega
      exact ⟨ret_str (by rw [List.take_length]), hbw.trans hb1⟩
end Go.Proofs.YtjfgcbikdibjeaaGreatDoor
