/- Slices of texts; the walk of bosketlaw0.Long. -/
import Derived.Test.YtobojdkloblfbaaDoorBase
namespace Go.Proofs.YtobojdkloblfbaaDoor
open Go.RowKit U

def strs (xs : List (List UInt8)) : List Value := xs.map fun x : List UInt8 => Value.string ⟨x.toArray⟩
theorem strs_get {xs : List (List UInt8)} {i : Nat} (h : i < xs.length) : (strs xs)[i]? = some (.string ⟨(xs[i]'h).toArray⟩) := by simp [strs, h]
theorem strs_length (xs : List (List UInt8)) : (strs xs).length = xs.length := by simp [strs]
theorem Sl.strs' {w : World} {v : Value} {xs : List (List UInt8)} (h : Sl w v (strs xs)) :
    ∃ a c, v = .slice a xs.length c ∧ (∀ (i : Nat) (hi : i < xs.length), ∃ b off, a = some ⟨b, off, none⟩ ∧ b < w.heap.size ∧ w.cell? ⟨b, off + i, none⟩ = some (.string ⟨(xs[i]'hi).toArray⟩)) := by
  rcases h with ⟨hx, rfl | ⟨ad, c, rfl⟩⟩ | ⟨b, off, c, hne, rfl, hb, hcell⟩
  · obtain rfl : xs = [] := by simpa [strs] using hx
    exact ⟨_, _, rfl, fun i hi => by simp at hi⟩
  · obtain rfl : xs = [] := by simpa [strs] using hx
    exact ⟨_, _, rfl, fun i hi => by simp at hi⟩
  · exact ⟨_, _, by rw [strs_length], fun i hi => ⟨b, off, rfl, hb, hcell i _ (strs_get hi)⟩⟩

/-- bosketlaw0.Long. -/
def long : Int → List (List UInt8) → Bool
  | _, [] => false
  | n, x :: xs => if n ≤ x.length then true else long (n - x.length - 1) xs

set_option maxRecDepth 100000 in
set_option maxHeartbeats 1000000 in
theorem long_c (n : Int) (xs : List (List UInt8)) (v : Value) (w : World) (hv : Sl w v (strs xs)) (hn0 : 0 ≤ n) (hn1 : n ≤ 2147483647) (hs : xs.length ≤ 9223372036854775807) (hx : ∀ x ∈ xs, x.length ≤ 9223372036854775807) :
    Calls Tryd.prog 26 #[.int .i64 n, v] w fun e w' => e = .returned (.bool (long n xs)) ∧ w = w' := by
  obtain ⟨a, c, rfl, hcells⟩ := Sl.strs' hv
  have HC := Lib.hid hcells
  have HX := Lib.hid hx
  clear hcells hv hx
  go_enter Tryd.func26, Tryd.ntmps26
  go_wp2
  go_loop [0, 5] (fun m i => ∃ (k : Nat) (r : Int), k ≤ xs.length ∧ i = .int .i64 k ∧ m = .int .i64 r ∧ 0 ≤ r ∧ r ≤ n ∧ Hid (long r (xs.drop k) = long n xs)) (fun _ i => xs.length - (intOf i).toNat)
  case atStart => exact ⟨0, n, Nat.zero_le _, rfl, rfl, hn0, Int.le_refl _, Lib.hid rfl⟩
  case round =>
    obtain ⟨k, r, hk, rfl, rfl, hr0, hr1, hL⟩ := hrel
    by_cases hlt : k < xs.length
    · obtain ⟨b, off, rfl, hb, hc⟩ := HC.out k hlt
      have hxl := HX.out _ (List.getElem_mem hlt)
      have hdr : xs.drop k = xs[k]'hlt :: xs.drop (k + 1) := List.drop_eq_getElem_cons hlt
      obtain ⟨x, he⟩ : ∃ x, xs[k]'hlt = x := ⟨_, rfl⟩
      rw [he] at hc hdr hxl
      have HD := Lib.hid hdr
      clear hdr he HC HX
      by_cases hge : r ≤ x.length
      · go_wp2
        go_ret
        refine ⟨ret_bool ?_, rfl⟩
        rw [← hL.out, HD.out]
        simp [long, hge]
      · go_wp2
        refine ⟨⟨k + 1, r - (x.length : Int) - 1, by omega, by go_num, by go_num, by omega, by omega, Lib.hid ?_⟩, ?_⟩
        · rw [← hL.out, HD.out]
          simp [long, hge]
        · simp [intOf]; omega
    · go_wp2
      go_ret
      refine ⟨ret_bool ?_, rfl⟩
      rw [← hL.out, List.drop_eq_nil_of_le (by omega)]
      rfl
end Go.Proofs.YtobojdkloblfbaaDoor
