/- The walk of bosketref1.One. -/
import Derived.Test.YtjfgcbikdibjeaaGreatDoorBase
namespace Go.Proofs.YtjfgcbikdibjeaaGreatDoor
open Go.RowKit U

set_option maxRecDepth 100000 in
set_option maxHeartbeats 2000000 in
theorem one_c1 (l : List UInt8) (k : Nat) (w : World) (hk : k < l.length) (h1 : byt l k < 128) :
    Calls Tryz.prog 99 #[.string ⟨l.toArray⟩, .int .i64 k] w fun e w' => e = .returned (.tuple #[.int .i32 (one (l.drop k)).1, .int .i64 (one (l.drop k)).2]) ∧ w = w' := by
  have ho := one_eq (l.drop k)
  simp only [List.length_drop, byt_drop, Nat.add_zero, oneN] at ho
  rw [if_pos (by omega)] at ho
  have HO := Lib.hid ho
  clear ho
  go_enter Tryz.func99, Tryz.ntmps99
  go_wp2
  go_ret2
  rw [HO.out]
  exact ⟨rfl, rfl⟩

set_option maxRecDepth 100000 in
set_option maxHeartbeats 2000000 in
theorem one_c0 (l : List UInt8) (k : Nat) (w : World) (hk : k < l.length) (h1 : 128 ≤ byt l k) (h2 : byt l k < 194) :
    Calls Tryz.prog 99 #[.string ⟨l.toArray⟩, .int .i64 k] w fun e w' => e = .returned (.tuple #[.int .i32 (one (l.drop k)).1, .int .i64 (one (l.drop k)).2]) ∧ w = w' := by
  have ho := one_eq (l.drop k)
  simp only [List.length_drop, byt_drop, Nat.add_zero, oneN] at ho
  rw [if_neg (by omega), if_pos (by omega)] at ho
  have HO := Lib.hid ho
  clear ho
  go_enter Tryz.func99, Tryz.ntmps99
  go_wp2
  go_ret2
  rw [HO.out]
  exact ⟨rfl, rfl⟩

set_option maxRecDepth 100000 in
set_option maxHeartbeats 2000000 in
theorem one_c5 (l : List UInt8) (k : Nat) (w : World) (hk : k < l.length) (h1 : 245 ≤ byt l k) :
    Calls Tryz.prog 99 #[.string ⟨l.toArray⟩, .int .i64 k] w fun e w' => e = .returned (.tuple #[.int .i32 (one (l.drop k)).1, .int .i64 (one (l.drop k)).2]) ∧ w = w' := by
  have ho := one_eq (l.drop k)
  simp only [List.length_drop, byt_drop, Nat.add_zero, oneN] at ho
  rw [if_neg (by omega), if_neg (by omega), if_neg (by omega), if_neg (by omega), if_neg (by omega)] at ho
  have HO := Lib.hid ho
  clear ho
  go_enter Tryz.func99, Tryz.ntmps99
  go_wp2
  go_ret2
  rw [HO.out]
  exact ⟨rfl, rfl⟩

set_option maxRecDepth 100000 in
set_option maxHeartbeats 2000000 in
theorem one_c2 (l : List UInt8) (k : Nat) (w : World) (hs : l.length ≤ 9223372036854775807) (hk : k < l.length) (h1 : 194 ≤ byt l k) (h2 : byt l k < 224) :
    Calls Tryz.prog 99 #[.string ⟨l.toArray⟩, .int .i64 k] w fun e w' => e = .returned (.tuple #[.int .i32 (one (l.drop k)).1, .int .i64 (one (l.drop k)).2]) ∧ w = w' := by
  have hb1 := byt_lt l (k + 1)
  have ho := one_eq (l.drop k)
  simp only [List.length_drop, byt_drop, Nat.add_zero, oneN] at ho
  rw [if_neg (by omega), if_neg (by omega), if_pos (by omega)] at ho
  have HO := Lib.hid ho
  clear ho
  by_cases hn : k + 2 ≤ l.length
  · go_enter Tryz.func99, Tryz.ntmps99
    go_wp2
    go_rounds 2
    all_goals go_ret2
    all_goals go_light
    all_goals rw [HO.out]
    all_goals clear HO
    all_goals refine ⟨ret_ii ?_ ?_, rfl⟩
    all_goals simp only [bne_iff_ne, ne_eq, bne_eq_false_iff_eq] at *
    all_goals first | (rw [if_neg (by omega)]; rfl) | (rw [if_pos (by omega)]; simp only []; omega)
  · go_enter Tryz.func99, Tryz.ntmps99
    go_wp2
    go_ret2
    rw [HO.out]
    rw [if_neg (by omega)]
    exact ⟨rfl, rfl⟩

set_option maxRecDepth 100000 in
set_option maxHeartbeats 2000000 in
theorem one_c3 (l : List UInt8) (k : Nat) (w : World) (hs : l.length ≤ 9223372036854775807) (hk : k < l.length) (h1 : 224 ≤ byt l k) (h2 : byt l k < 240) :
    Calls Tryz.prog 99 #[.string ⟨l.toArray⟩, .int .i64 k] w fun e w' => e = .returned (.tuple #[.int .i32 (one (l.drop k)).1, .int .i64 (one (l.drop k)).2]) ∧ w = w' := by
  have hb1 := byt_lt l (k + 1)
  have hb2 := byt_lt l (k + 2)
  have ho := one_eq (l.drop k)
  simp only [List.length_drop, byt_drop, Nat.add_zero, oneN] at ho
  rw [if_neg (by omega), if_neg (by omega), if_neg (by omega), if_pos (by omega)] at ho
  have HO := Lib.hid ho
  clear ho
  by_cases hn : k + 3 ≤ l.length
  · go_enter Tryz.func99, Tryz.ntmps99
    go_wp2
    go_rounds 3
    all_goals go_ret2
    all_goals go_light
    all_goals rw [HO.out]
    all_goals clear HO
    all_goals refine ⟨ret_ii ?_ ?_, rfl⟩
    all_goals simp only [bne_iff_ne, ne_eq, bne_eq_false_iff_eq] at *
    all_goals first | (rw [if_neg (by omega)]; rfl) | (rw [if_pos (by omega)]; simp only []; omega)
  · go_enter Tryz.func99, Tryz.ntmps99
    go_wp2
    go_ret2
    rw [HO.out]
    rw [if_neg (by omega)]
    exact ⟨rfl, rfl⟩

set_option maxRecDepth 100000 in
set_option maxHeartbeats 2000000 in
theorem one_c4 (l : List UInt8) (k : Nat) (w : World) (hs : l.length ≤ 9223372036854775807) (hk : k < l.length) (h1 : 240 ≤ byt l k) (h2 : byt l k < 245) :
    Calls Tryz.prog 99 #[.string ⟨l.toArray⟩, .int .i64 k] w fun e w' => e = .returned (.tuple #[.int .i32 (one (l.drop k)).1, .int .i64 (one (l.drop k)).2]) ∧ w = w' := by
  have hb1 := byt_lt l (k + 1)
  have hb2 := byt_lt l (k + 2)
  have hb3 := byt_lt l (k + 3)
  have ho := one_eq (l.drop k)
  simp only [List.length_drop, byt_drop, Nat.add_zero, oneN] at ho
  rw [if_neg (by omega), if_neg (by omega), if_neg (by omega), if_neg (by omega), if_pos (by omega)] at ho
  have HO := Lib.hid ho
  clear ho
  by_cases hn : k + 4 ≤ l.length
  · go_enter Tryz.func99, Tryz.ntmps99
    go_wp2
    go_rounds 4
    all_goals go_ret2
    all_goals go_light
    all_goals rw [HO.out]
    all_goals clear HO
    all_goals refine ⟨ret_ii ?_ ?_, rfl⟩
    all_goals simp only [bne_iff_ne, ne_eq, bne_eq_false_iff_eq] at *
    all_goals first | (rw [if_neg (by omega)]; rfl) | (rw [if_pos (by omega)]; simp only []; omega)
  · go_enter Tryz.func99, Tryz.ntmps99
    go_wp2
    go_ret2
    rw [HO.out]
    rw [if_neg (by omega)]
    exact ⟨rfl, rfl⟩

/-- bosketref1.One: what begins at a place. -/
theorem one_c (l : List UInt8) (k : Nat) (w : World) (hs : l.length ≤ 9223372036854775807) (hk : k < l.length) :
    Calls Tryz.prog 99 #[.string ⟨l.toArray⟩, .int .i64 k] w fun e w' => e = .returned (.tuple #[.int .i32 (one (l.drop k)).1, .int .i64 (one (l.drop k)).2]) ∧ w = w' := by
  by_cases h1 : byt l k < 128
  · exact one_c1 l k w hk h1
  by_cases h2 : byt l k < 194
  · exact one_c0 l k w hk (by omega) h2
  by_cases h3 : byt l k < 224
  · exact one_c2 l k w hs hk (by omega) h3
  by_cases h4 : byt l k < 240
  · exact one_c3 l k w hs hk (by omega) h4
  by_cases h5 : byt l k < 245
  · exact one_c4 l k w hs hk (by omega) h5
  · exact one_c5 l k w hk (by omega)
end Go.Proofs.YtjfgcbikdibjeaaGreatDoor
