/- The walk of bosketlaw10.DireTells. -/
import Derived.Test.YtjnmgmepolpcdaaDoorLawDireTells0
import Derived.Test.YtjnmgmepolpcdaaDoorLawCoreBases
import Derived.Test.YtjnmgmepolpcdaaDoorLawDireTwice
import Derived.Laws.OwnMore
namespace Go.Proofs.YtjnmgmepolpcdaaDoor
open Go.RowKit U Go.Proofs

def dirL : List (List UInt8) := [[89, 65, 77, 76], [84, 65, 71], [32], [32, 32], [9], [49, 46, 50], [49, 46], [50, 46, 49], [33], [33, 33], [33, 101, 33], [120, 58], [35], [32, 35, 32, 99, 32], [37, 52, 49], [37, 52], [91], [33, 101]]
theorem dir_ok : ∀ j, j < 18 → (dirL.getD j []).length ≤ 7 := by decide
theorem long_short : ∀ (ds : List (List UInt8)) (n : Int), n ≤ 80 → long n ds = false → ∀ x ∈ ds, x.length ≤ 80 := by
  intro ds
  induction ds with
  | nil => intro n _ _ x hx; cases hx
  | cons y t ih =>
    intro n hn h x hx
    unfold long at h
    split at h
    · cases h
    · rcases List.mem_cons.1 hx with rfl | hx
      · omega
      · exact ih _ (by omega) h x hx

set_option maxRecDepth 100000 in
set_option maxHeartbeats 8000000 in
theorem direTells_c (l : List UInt8) (ks : List Int) (kv : Value) (ds : List (List UInt8)) (dv : Value) (w : World) (hE : Env w) (hs : l.length ≤ 9223372036854775807)
    (hk : Sl w kv (ks.map fun x : Int => Value.int .i64 x)) (_hkw : ∀ x ∈ ks, (Lit.int .i64 x).wf = true) (_hks : ks.length ≤ 9223372036854775807)
    (hd : Sl w dv (strs ds)) (hdx : ∀ x ∈ ds, x.length ≤ 9223372036854775807) (hds : ds.length ≤ 9223372036854775807) :
    Calls Tryd.prog 11 #[.string ⟨l.toArray⟩, kv, dv] w fun e w' => e = .returned (.bool true) ∧ Below w.heap.size w w' := by
  have hA := At.refl hE
  obtain ⟨ka, kc, rfl, hkc⟩ := Sl.ints (k := .i64) hk
  obtain ⟨da, dc, rfl, hdc⟩ := Sl.strs' hd
  have HC := Lib.hid hkc
  clear hkc hdc hk
  by_cases hl : 80 < l.length
  · go_enter Tryd.func11, Tryd.ntmps11
    go_wp2_with (go_at_call 32; refine (awake10_c _ hA.env).mono ?_; rintro e w1 ⟨rfl, hb⟩; have hA := hA.step hb; clear hb)
    go_ret
    exact ⟨rfl, hA.below⟩
  by_cases hk : 8 < ks.length
  · go_enter Tryd.func11, Tryd.ntmps11
    go_wp2_with (go_at_call 32; refine (awake10_c _ hA.env).mono ?_; rintro e w1 ⟨rfl, hb⟩; have hA := hA.step hb; clear hb)
    go_ret
    exact ⟨rfl, hA.below⟩
  by_cases hn : 4 < ds.length
  · go_enter Tryd.func11, Tryd.ntmps11
    go_wp2_with (go_at_call 32; refine (awake10_c _ hA.env).mono ?_; rintro e w1 ⟨rfl, hb⟩; have hA := hA.step hb; clear hb)
    go_ret
    exact ⟨rfl, hA.below⟩
  by_cases hL : long 80 ds = true
  · have HL := Lib.hid hL
    clear hL
    go_enter Tryd.func11, Tryd.ntmps11
    go_wp2_with fail
    refine (long_c 80 ds _ _ hd (by omega) (by omega) hds hdx).mono ?_
    rw [HL.out]
    rintro e w1 ⟨rfl, rfl⟩
    go_wp2_with (go_at_call 32; refine (awake10_c _ hA.env).mono ?_; rintro e w1 ⟨rfl, hb⟩; have hA := hA.step hb; clear hb)
    go_ret
    exact ⟨rfl, hA.below⟩
  have hL := Bool.eq_false_iff.2 hL
  have hdx8 := long_short ds 80 (by omega) hL
  have HL := Lib.hid hL
  clear hL
  go_enter Tryd.func11, Tryd.ntmps11
  go_wp2_with fail
  refine (long_c 80 ds _ _ hd (by omega) (by omega) hds hdx).mono ?_
  rw [HL.out]
  rintro e w1 ⟨rfl, rfl⟩
  go_wp2_with fail
  clear hk hn
  go_loopw [7, 8] (fun s i wr => ∃ (k : Nat) (t : List UInt8), k ≤ ks.length ∧ s = .string ⟨t.toArray⟩ ∧ t.length ≤ 1 + 7 * k ∧ i = .int .i64 k ∧ At w wr) (fun _ i _ => ks.length - (intOf i).toNat)
  case atStart => exact ⟨0, [37], Nat.zero_le _, rfl, by decide, rfl, hA⟩
  case round =>
    obtain ⟨k, t, hk, rfl, htk, rfl, hA⟩ := hrel
    by_cases hlt : k < ks.length
    · obtain ⟨b, off, rfl, hb, hck0⟩ := HC.out k hlt
      have hck : wr.cell? ⟨b, off + k, none⟩ = some (.int .i64 (ks[k]'hlt)) := (hA.below.cell (p := ⟨b, off + k, none⟩) hb).trans hck0
      generalize hX : (ks[k]'hlt) = x at *
      clear hX hck0
      have hj := low_lt x 18 (by omega)
      generalize hJ : low x 18 = j at *
      have HJ := Lib.hid hJ
      clear hJ
      have hLow := fun w => low_j x 18 j w (by omega) (by omega) HJ.out
      go_wp2_with fail
      refine (hLow _).mono ?_
      rintro e w1 ⟨rfl, hw1⟩
      obtain rfl := hw1.symm
      have cj := cells_at wr 9 (strs dirL) j _ (strs_at2 (xs := dirL) hj)
      change (wr.alloc (.cells #[.string ⟨#[89, 65, 77, 76]⟩, .string ⟨#[84, 65, 71]⟩, .string ⟨#[32]⟩, .string ⟨#[32, 32]⟩, .string ⟨#[9]⟩, .string ⟨#[49, 46, 50]⟩, .string ⟨#[49, 46]⟩, .string ⟨#[50, 46, 49]⟩, .string ⟨#[33]⟩, .string ⟨#[33, 33]⟩, .string ⟨#[33, 101, 33]⟩, .string ⟨#[120, 58]⟩, .string ⟨#[35]⟩, .string ⟨#[32, 35, 32, 99, 32]⟩, .string ⟨#[37, 52, 49]⟩, .string ⟨#[37, 52]⟩, .string ⟨#[91]⟩, .string ⟨#[33, 101]⟩] 9)).cell? ⟨wr.heap.size, j, none⟩ = _ at cj
      have hpl := dir_ok j hj
      generalize dirL.getD j [] = p at *
      have hj0 : (0 : Int) ≤ (j : Int) := by omega
      have hj1 : (j : Int) < 18 := by omega
      have hA := hA.alloc (.cells #[.string ⟨#[89, 65, 77, 76]⟩, .string ⟨#[84, 65, 71]⟩, .string ⟨#[32]⟩, .string ⟨#[32, 32]⟩, .string ⟨#[9]⟩, .string ⟨#[49, 46, 50]⟩, .string ⟨#[49, 46]⟩, .string ⟨#[50, 46, 49]⟩, .string ⟨#[33]⟩, .string ⟨#[33, 33]⟩, .string ⟨#[33, 101, 33]⟩, .string ⟨#[120, 58]⟩, .string ⟨#[35]⟩, .string ⟨#[32, 35, 32, 99, 32]⟩, .string ⟨#[37, 52, 49]⟩, .string ⟨#[37, 52]⟩, .string ⟨#[91]⟩, .string ⟨#[33, 101]⟩] 9)
      go_wp2_with fail
      exact ⟨⟨k + 1, _, by omega, rfl, by simp; omega, by go_num, hA⟩, by simp [intOf]; omega⟩
    · obtain rfl : k = ks.length := by omega
      have htl : t.length ≤ 57 := by omega
      go_wp2_with fail
      refine (read_c t _ hA.env (by omega)).mono ?_
      rintro e w1 ⟨rfl, hb⟩
      have hA := hA.step hb
      have hd1 := hd.below hA.below
      clear hb
      have hql := read_short (l := t) (by omega)
      generalize readM t = q at hql
      obtain ⟨q1, q2, q3, q4⟩ := q
      have hql : q1.length ≤ 7000 := hql
      obtain ⟨i0, hi, hz0, hz1, hz2⟩ := info_parts Tryd.infoStr
      have hA1 := hA.alloc (.cells #[.string ⟨#[37, 84, 65, 71, 32, 33, 101, 33, 32, 121]⟩] 9)
      have hd2 := hd1.below ((Below.refl _ _).alloc (Nat.le_refl _) (.cells #[.string ⟨#[37, 84, 65, 71, 32, 33, 101, 33, 32, 121]⟩] 9))
      have hown : (w1.alloc (.cells #[.string ⟨#[37, 84, 65, 71, 32, 33, 101, 33, 32, 121]⟩] 9)).ownsRow w1.heap.size 9 1 (.slice (some ⟨w1.heap.size, 0, none⟩) 1 1) 1 (strs [[37, 84, 65, 71, 32, 33, 101, 33, 32, 121]]) :=
        World.ownsRow_lit w1 #[.string ⟨#[37, 84, 65, 71, 32, 33, 101, 33, 32, 121]⟩] 1 (Nat.le_refl _) (by decide) rfl
      have hc3 : 1 + (strs ds).length ≤ maxLen := by rw [strs_length]; unfold maxLen; omega
      have hc4 : (1 + (strs ds).length) * 16 ≤ 140737488355328 := by rw [strs_length]; omega
      have hone : ∀ u ∈ strs ds, u.oneCell' = true := by intro u hu; simp [strs] at hu; obtain ⟨x, _, rfl⟩ := hu; rfl
      have hb2 : Below w1.heap.size w1 (w1.alloc (.cells #[.string ⟨#[37, 84, 65, 71, 32, 33, 101, 33, 32, 121]⟩] 9)) := (Below.refl _ _).alloc (Nat.le_refl _) _
      have hsz2 := hb2.size
      go_wp2_with (at_builtin; refine wpList_unguard (by rfl) ?_; refine wpList_append_sl rfl _ _ 27 rfl w1.heap.size 9 i0 (.string ⟨#[]⟩) 16 Tryd.underlying27 hi hz0 hz1 hz2 rfl (.slice (some ⟨w1.heap.size, 0, none⟩) 1 1) _ _ _ _ rfl hown rfl hd2 hone hc3 hc4 hb2 hsz2 ?_; intro v5 w5 hown5 hbw5 hgr5)
      have hA := hA.step hbw5
      have hs5 : Sl w5 v5 (strs ([37, 84, 65, 71, 32, 33, 101, 33, 32, 121] :: ds)) := Sl.own hown5
      have hx5 : ∀ x ∈ ([37, 84, 65, 71, 32, 33, 101, 33, 32, 121] :: ds : List (List UInt8)), x.length ≤ 1000000 := by
        intro x hx
        rcases List.mem_cons.1 hx with rfl | hx
        · simp
        · have := hdx8 x hx; omega
      have HX5 := Lib.hid hx5
      have HXD : Hid (∀ x ∈ ds, x.length ≤ 1000000) := Lib.hid (fun x hx => by have := hdx8 x hx; omega)
      have hn5 : ([37, 84, 65, 71, 32, 33, 101, 33, 32, 121] :: ds : List (List UInt8)).length ≤ 1073741824 := by simp; omega
      generalize ([37, 84, 65, 71, 32, 33, 101, 33, 32, 121] :: ds : List (List UInt8)) = zs at hs5 HX5 hn5
      clear hx5
      clear hown5 hown hgr5 hc3 hc4 hd1 hd2 hone hbw5 hb2 hsz2
      refine (same10_c l _ hA.env (by omega)).mono ?_
      rintro e w6 ⟨rfl, hb⟩
      have hA := hA.step hb
      have hs5 := hs5.below hb
      clear hb
      go_wp2_with fail
      refine (same10_c t _ hA.env (by omega)).mono ?_
      rintro e w7 ⟨rfl, hb⟩
      have hA := hA.step hb
      have hs5 := hs5.below hb
      clear hb
      go_wp2_with fail
      refine (same10_c (37 :: l) _ hA.env (by simp; omega)).mono ?_
      rintro e w8 ⟨rfl, hb⟩
      have hA := hA.step hb
      have hs5 := hs5.below hb
      clear hb
      go_wp2_with fail
      refine (twice_c zs _ q1 _ hA.env hs5 hn5 HX5.out (by omega)).mono ?_
      rintro e w9 ⟨rfl, hb⟩
      have hA := hA.step hb
      have hs5 := hs5.below hb
      clear hb
      go_wp2_with fail
      refine (rtwice_c zs _ q1 _ hA.env hs5 hn5 HX5.out (by omega)).mono ?_
      rintro e w9 ⟨rfl, hb⟩
      have hA := hA.step hb
      have hs5 := hs5.below hb
      clear hb
      go_wp2_with fail
      refine (twice_c ds _ l _ hA.env (hd.below hA.below) (by omega) HXD.out (by omega)).mono ?_
      rintro e w9 ⟨rfl, hb⟩
      have hA := hA.step hb
      clear hb
      go_wp2_with fail
      refine (rtwice_c ds _ l _ hA.env (hd.below hA.below) (by omega) HXD.out (by omega)).mono ?_
      rintro e w9 ⟨rfl, hb⟩
      have hA := hA.step hb
      clear hb
      go_wp2_with fail
      refine (awake10_c _ hA.env).mono ?_
      rintro e w9 ⟨rfl, hb⟩
      have hA := hA.step hb
      clear hb
      go_wp2_with fail
      go_ret
      exact ⟨rfl, hA.below⟩
end Go.Proofs.YtjnmgmepolpcdaaDoor
