/- The walk of package plai's Read, of a scalar in one row. -/
import Derived.Test.YtjfgcbikdibjeaaGreatDoorWPlai2
import Derived.Test.YtjfgcbikdibjeaaGreatDoorPAllB
import Derived.Test.YtjfgcbikdibjeaaGreatDoorWFlow
import Derived.Test.YtjfgcbikdibjeaaGreatDoorLits
namespace Go.Proofs.YtjfgcbikdibjeaaGreatDoor
open Go.RowKit U Go.Proofs

set_option maxRecDepth 100000 in
set_option maxHeartbeats 2000000 in
theorem pwhite_c (l : List UInt8) (p : Nat) (w : World) (hs : l.length ≤ 1073741824) (hp : p ≤ l.length) :
    Calls Tryz.prog 69 #[.string ⟨l.toArray⟩, .int .i64 p] w fun e w' => e = .returned (.int .i64 ((p + run whN l p : Nat) : Int)) ∧ w = w' := by
  obtain ⟨u, hu⟩ : ∃ u, p + run whN l p = u := ⟨_, rfl⟩
  rw [hu]
  have HU := Lib.hid hu
  clear hu
  go_enter Tryz.func69, Tryz.ntmps69
  go_wp2_with fail
  go_loop [1] (fun x => ∃ q : Nat, q ≤ l.length ∧ x = .int .i64 q ∧ Hid (q + run whN l q = u)) (fun x => l.length - (intOf x).toNat)
  case atStart => exact ⟨p, hp, rfl, HU⟩
  case round =>
    obtain ⟨q, hq, rfl, HQ⟩ := hrel
    by_cases hlt : q < l.length
    · have hW := fun w => white_c (byt l q) w (byt_lt l q)
      cases hw : whN (byt l q) with
      | true =>
        rw [hw] at hW
        have HR : Hid (q + 1 + run whN l (q + 1) = u) := Lib.hid (by rw [← HQ.out, run_step hlt hw]; omega)
        clear hw
        go_wp2_with fail
        refine (hW _).mono ?_
        rintro e w1 ⟨rfl, rfl⟩
        go_wp2_with fail
        go_round
        case rel => exact ⟨q + 1, by omega, by go_num, HR⟩
        case measure => simp [intOf]; omega
      | false =>
        rw [hw] at hW
        have HR : Hid (u = q) := Lib.hid (by rw [← HQ.out, run_stop hw]; rfl)
        clear hw
        go_wp2_with fail
        refine (hW _).mono ?_
        rintro e w1 ⟨rfl, rfl⟩
        go_wp2_with fail
        go_ret
        exact ⟨ret_int (by rw [HR.out]), rfl⟩
    · have HR : Hid (u = q) := Lib.hid (by rw [← HQ.out, run_end (by omega)]; rfl)
      go_wp2_with fail
      go_ret
      exact ⟨ret_int (by rw [HR.out]), rfl⟩
set_option maxRecDepth 100000 in
set_option maxHeartbeats 4000000 in
theorem pnext_c (l : List UInt8) (p : Nat) (flow : Bool) (w : World) (hs : l.length ≤ 1000000) (hp : p ≤ l.length) (hN : NoNext l p) :
    Calls Tryz.prog 68 #[.string ⟨l.toArray⟩, .int .i64 p, .int .i64 0, .bool flow] w fun e w' => (∃ x y : Int, e = .returned (.tuple #[.int .i64 x, .int .i64 y, .bool false])) ∧ Below w.heap.size w w' := by
  have hR := fun w => row_n l p w (by omega) hp
  have hW := fun w => pwhite_c l p w (by omega) hp
  have hto := rowTo_le (l := l) (p := p) hp
  have hge := rowTo_ge l p
  unfold NoNext at hN
  have hrun := run_le whN l p
  generalize rowFrom l p = fr at *
  have hWp := fun w h => pwhite_c l (rowTo l p + 1) w (by omega) h
  have hrun2 := run_le whN l (rowTo l p + 1)
  have hK := fun w h => kind_n l (rowTo l p + 1) w (by omega) h
  have hI := fun w h => in_n l (rowTo l p + 1) w (by omega) h
  generalize rowTo l p = te at *
  generalize hu : p + run whN l p = u at *
  generalize te + 1 + run whN l (te + 1) = u2 at *
  generalize kindM l (te + 1) = kd at *
  generalize inM l (te + 1) = ii at *
  by_cases hlt : u < te
  · clear hN hWp hK hI hu
    go_enter Tryz.func68, Tryz.ntmps68
    go_wp2_with fail
    refine (hR _).mono ?_
    rintro e w1 ⟨rfl, rfl⟩
    go_wp2_with fail
    refine (hW _).mono ?_
    rintro e w1 ⟨rfl, rfl⟩
    go_wp2_with fail
    go_ret3
    exact ⟨⟨_, _, rfl⟩, Below.refl _ _⟩
  rcases hN with h | h | ⟨h1, h2, h3⟩
  · exact absurd h hlt
  · subst h
    clear hWp hK hI hu
    go_enter Tryz.func68, Tryz.ntmps68
    go_wp2_with fail
    refine (hR _).mono ?_
    rintro e w1 ⟨rfl, rfl⟩
    go_wp2_with fail
    refine (hW _).mono ?_
    rintro e w1 ⟨rfl, rfl⟩
    go_wp2_with fail
    go_loopg [1, 11, 13, 14] 1 (fun gk s1 s11 s13 s14 wr => gk = 1 ∧ s1 = .int .i64 p ∧ s11 = .int .i64 0 ∧ s13 = .int .i64 (l.length : Int) ∧ w = wr)
    case atStart => exact ⟨rfl, rfl, rfl, rfl, rfl⟩
    case round =>
      obtain ⟨-, rfl, rfl, rfl, rfl⟩ := hrel
      go_wp2_with fail
      go_ret3
      exact ⟨⟨_, _, rfl⟩, Below.refl _ _⟩
  · subst h2 h3
    have hWp := fun w => hWp w (by omega)
    have hK := fun w => hK w (by omega)
    have hI := fun w => hI w (by omega)
    clear hu
    go_enter Tryz.func68, Tryz.ntmps68
    go_wp2_with fail
    refine (hR _).mono ?_
    rintro e w1 ⟨rfl, rfl⟩
    go_wp2_with fail
    refine (hW _).mono ?_
    rintro e w1 ⟨rfl, rfl⟩
    go_wp2_with fail
    go_loopg [1, 11, 13, 14] 1 (fun gk s1 s11 s13 s14 wr => gk = 1 ∧ s1 = .int .i64 p ∧ s11 = .int .i64 0 ∧ s13 = .int .i64 te ∧ w = wr)
    case atStart => exact ⟨rfl, rfl, rfl, rfl, rfl⟩
    case round =>
      obtain ⟨-, rfl, rfl, rfl, rfl⟩ := hrel
      rw [show ((te + 1 : Nat) : Int) = (te : Int) + 1 by omega] at hK hI hWp
      go_wp2_with fail
      refine (hK _).mono ?_
      rintro e w1 ⟨rfl, rfl⟩
      go_wp2_with fail
      refine (hWp _).mono ?_
      rintro e w1 ⟨rfl, rfl⟩
      go_wp2_with fail
      refine (hI _).mono ?_
      rintro e w1 ⟨rfl, rfl⟩
      go_wp2_with fail
      go_ret3
      exact ⟨⟨_, _, rfl⟩, Below.refl _ _⟩
set_option maxRecDepth 100000 in
set_option maxHeartbeats 4000000 in
theorem pread1_c (l x : List UInt8) (E : Nat) (flow : Bool) (w : World) (hs : l.length ≤ 1000000) (hb : beginsM l 0 flow = true) (hp : partM l 0 flow = E) (hN : NoNext l E) (hEl : E ≤ l.length) (hx : l.take E = x) :
    Calls Tryz.prog 35 #[.string ⟨l.toArray⟩, .int .i64 0, .int .i64 0, .bool flow] w fun e w' => e = .returned (.tuple #[.string ⟨x.toArray⟩, .int .i64 E, .bool true, .int .i64 0]) ∧ Below w.heap.size w w' := by
  have hB := fun w => begins_c l 0 flow w (by omega) (Nat.zero_le _)
  have hP := fun w => part_c l 0 flow w (by omega) (Nat.zero_le _)
  have hNx := fun w => pnext_c l E flow w hs hEl hN
  have hW := fun w => pwhite_c l E w (by omega) hEl
  rw [hb] at hB
  rw [hp] at hP
  have hrun := run_le whN l E
  have hxl : x.length ≤ 1000000 := by rw [← hx, List.length_take]; omega
  have hF := fun v w h => fflow_c v [x] w h (by simp [sumL]; omega)
  rw [flow_one] at hF
  generalize hu : E + run whN l E = u at *
  clear hN hb hp hu
  go_enter Tryz.func35, Tryz.ntmps35
  go_wp2_with fail
  refine (hB _).mono ?_
  rintro e w1 ⟨rfl, rfl⟩
  go_wp2_with fail
  refine (hP _).mono ?_
  rintro e w1 ⟨rfl, hb1⟩
  go_wp2_with fail
  have hSl : Slc (w1.alloc (.cells #[.string ⟨x.toArray⟩] 9)) (.slice (some ⟨w1.heap.size, 0, none⟩) 1 1) [x] :=
    ⟨_, _, rfl, Nat.le_refl _, fun i hi => ⟨_, _, rfl, by simp, by
      obtain rfl : i = 0 := by simp at hi; exact hi
      exact lit_cell w1 9 [.string ⟨x.toArray⟩] 0 _ rfl⟩⟩
  have hB2 : Below w.heap.size w (w1.alloc (.cells #[.string ⟨x.toArray⟩] 9)) := hb1.alloc hb1.size _
  generalize w1.alloc (.cells #[.string ⟨x.toArray⟩] 9) = W at *
  generalize w1.heap.size = g at *
  clear hb1 hB hP
  go_loopg [12, 13, 14, 15, 16, 17] 1 (fun gk s12 s13 s14 _ _ _ wr => gk = 1 ∧ s12 = .int .i64 E ∧ s13 = .slice (some ⟨g, 0, none⟩) 1 1 ∧ s14 = .bool true ∧ W = wr)
  case atStart => exact ⟨rfl, rfl, rfl, rfl, rfl⟩
  case round =>
    obtain ⟨-, rfl, rfl, rfl, rfl⟩ := hrel
    go_wp2_with fail
    refine (hNx _).mono ?_
    rintro e w2 ⟨⟨y1, y2, rfl⟩, hb2⟩
    have hSl := hSl.below hb2
    have hB2 := hB2.trans (hb2.mono hB2.size)
    clear hb2 hNx
    have hFW := hF _ _ hSl
    clear hF
    cases flow with
    | false =>
      go_wp2_with fail
      refine (hW _).mono ?_
      rintro e w3 ⟨rfl, rfl⟩
      go_wp2_with fail
      refine hFW.mono ?_
      rintro e w3 ⟨rfl, hb3⟩
      go_wp2_with fail
      exact bodyPost_ret (v := .tuple #[.string ⟨x.toArray⟩, .int .i64 E, .bool true, .int .i64 0]) (by simp [results, Tryz.results35, go_sem]) rfl ⟨rfl, hB2.trans (hb3.mono hB2.size)⟩
    | true =>
      go_wp2_with fail
      refine (hW _).mono ?_
      rintro e w3 ⟨rfl, rfl⟩
      go_wp2_with fail
      refine hFW.mono ?_
      rintro e w3 ⟨rfl, hb3⟩
      go_wp2_with fail
      exact bodyPost_ret (v := .tuple #[.string ⟨x.toArray⟩, .int .i64 E, .bool true, .int .i64 0]) (by simp [results, Tryz.results35, go_sem]) rfl ⟨rfl, hB2.trans (hb3.mono hB2.size)⟩
end Go.Proofs.YtjfgcbikdibjeaaGreatDoor
