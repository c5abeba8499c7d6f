/- PickQuote: what cannot stand plain is told by escapes, printable and in one row. -/
import Derived.Test.YtjfgcbikdibjeaaGreatDoorLawPick1
import Derived.Test.YtjfgcbikdibjeaaGreatDoorPEsca3
import Derived.Test.YtjfgcbikdibjeaaGreatDoorWText
import Derived.Test.YtjfgcbikdibjeaaGreatDoorWScal
import Derived.Test.YtjfgcbikdibjeaaGreatDoorWWord
import Derived.Test.YtjfgcbikdibjeaaGreatDoorWPrintable
namespace Go.Proofs.YtjfgcbikdibjeaaGreatDoor
namespace U
open Go

theorem runes_pos {l : List UInt8} (h : l ≠ []) : 1 ≤ (runes l).length := by
  rw [runes_length]
  unfold width
  rw [units_cons 0 l h]
  simp
theorem show_ne (r : Int) : showM r ≠ [] := by
  unfold showM
  split
  · assumption
  · split
    · intro h
      have := encR_pos (fixr r)
      rw [h] at this
      simp at this
    · unfold codedM
      split
      · simp
      · split <;> simp
theorem quote_mid (l : List UInt8) (s : Bool) (hl : l ≠ []) : ∃ xs, enc xs ≠ [] ∧ quoteM l s = [quoteQ l s] ++ enc xs ++ [quoteQ l s] ∧ (quoteQ l s = 39 ∨ quoteQ l s = 34) := by
  unfold quoteM quoteQ
  by_cases h : (s && singleM l) = true
  · rw [if_pos h, if_pos h]
    rw [Bool.and_eq_true] at h
    have h2 := h.2
    unfold singleM at h2
    rw [Bool.and_eq_true, decide_eq_true_iff] at h2
    have hp : place l = -1 := by have := place_ge l; omega
    have he := enc_runes hp
    obtain ⟨xs, hx, _⟩ := dbl_enc (runes l) (fun r hr => ⟨runes_scalar l r hr, List.all_eq_true.1 h2.2 r hr⟩)
    rw [he] at hx
    refine ⟨xs, ?_, by rw [hx], .inl rfl⟩
    rw [← hx]
    cases l with
    | nil => exact absurd rfl hl
    | cons b t =>
      rw [dbl_cons]
      split <;> simp
  · rw [if_neg h, if_neg h]
    obtain ⟨xs, hx, _⟩ := shows_enc (runes l) (runes_scalar l)
    refine ⟨xs, ?_, by rw [hx], .inr rfl⟩
    rw [← hx]
    have := runes_pos hl
    cases hr : runes l with
    | nil => rw [hr] at this; simp at this
    | cons r rs =>
      rw [showsM_cons]
      intro h0
      exact show_ne r (List.append_eq_nil_iff.1 h0).1
theorem quote_runes (l : List UInt8) (s : Bool) (hl : l ≠ []) : 3 ≤ (runes (quoteM l s)).length ∧ ∀ r ∈ runes (quoteM l s), printable r = true ∧ r ≠ 10 := by
  constructor
  · obtain ⟨xs, h1, h2, hq⟩ := quote_mid l s hl
    rw [h2]
    have hp : place [quoteQ l s] = -1 := by rcases hq with h | h <;> (rw [h]; decide)
    have h3 := runes_pos h1
    have h4 : (runes [quoteQ l s]).length = 1 := by rcases hq with h | h <;> (rw [h]; decide)
    rw [List.append_assoc, runes_append _ hp, runes_append _ (place_enc xs), List.length_append, List.length_append, h4]
    omega
  · intro r hr
    have h := quote_single l s
    unfold singleM at h
    rw [Bool.and_eq_true] at h
    have := List.all_eq_true.1 h.2 r hr
    unfold okR at this
    rw [Bool.and_eq_true, decide_eq_true_iff] at this
    exact this
theorem style_quote (t : List UInt8) (single flow row : Bool) : styleM t 3 false single false flow row = if (single && singleM t) = true then 2 else 3 := by
  unfold styleM
  simp
theorem show_quote (t : List UInt8) (single flow : Bool) : showP t 3 false single false flow = quoteM t single := by
  unfold showP
  rw [style_quote]
  by_cases h : (single && singleM t) = true
  · rw [if_pos h, if_neg (by decide)]
    unfold quoteM
    rw [if_pos h]
    rw [Bool.and_eq_true] at h
    rw [h.2]
    simp
  · rw [if_neg h, if_neg (by decide)]
    unfold quoteM
    rw [if_neg h]
    simp
end U
open Go.RowKit U Go.Proofs
theorem Tryz.infoI32' : (Tryz.prog.info? 21).map (fun i => (i.zero, i.size, i.bytes)) = some (some (.int .i32 0), 1, 4) := by kernel_rfl

set_option maxRecDepth 100000 in
set_option maxHeartbeats 1000000 in
theorem runes_c (l : List UInt8) (w : World) (hs : l.length ≤ 1073741824) :
    Calls Tryz.prog 31 #[.string ⟨l.toArray⟩] w (RetRow w 21 (i32s (runes l))) := by
  obtain ⟨i0, hi, hz0, hz1, hz2⟩ := info_parts Tryz.infoI32'
  go_enter Tryz.func31, Tryz.ntmps31
  go_wp2
  go_loopw [3] (fun v wr => ∃ (pos : Nat) (xs : List Int), pos ≤ l.length ∧ wr.heap[w.heap.size]? = some (.stringIter ⟨l.toArray⟩ pos) ∧ wr.ownsRow (w.heap.size + 1) 21 1 v xs.length (i32s xs) ∧ Below w.heap.size w wr ∧ Hid (xs ++ (units pos (l.drop pos)).map (fun u => (u.2.1 : Int)) = runes l) ∧ xs.length ≤ pos) (fun _ wr => l.length - wr.iterPos w.heap.size)
  case atStart =>
    refine ⟨0, [], Nat.zero_le _, ?_, own_nil _ _ _, (Below.refl _ w).alloc (Nat.le_refl _) _, Lib.hid rfl, Nat.le_refl _⟩
    exact World.iter_heap w _ 0
  case round =>
    obtain ⟨pos, xs, hp, hit, hown, hbw, hP, hxl⟩ := hrel
    by_cases hlt : pos < l.length
    · obtain ⟨r, n, HD, HU, hn1, hn2, hr, hnx, hit2, hbw2, hsz, hsz2⟩ := range_at Tryz.prog hit hlt hbw (Nat.le_refl _)
      have hown2 := ownsRow_iterAt hown (k := w.heap.size) (by omega) ⟨l.toArray⟩ (pos + n)
      obtain ⟨W, hW⟩ : ∃ W, W = wr.iterAt w.heap.size ⟨l.toArray⟩ (pos + n) := ⟨_, rfl⟩
      rw [← hW] at hnx hit2 hbw2 hown2 hsz2
      clear hW
      have hc3 : xs.length + 1 ≤ maxLen := by unfold maxLen; omega
      have hc4 : (xs.length + 1) * 4 ≤ 140737488355328 := by omega
      have hbB := Below.refl (w.heap.size + 1) W
      have hszW : w.heap.size + 1 ≤ W.heap.size := by omega
      have HS2 := Lib.hid hsz2
      clear hsz2
      go_wp2_with (at_builtin; refine wpList_push rfl _ _ 48 rfl (w.heap.size + 1) 21 i0 (.int .i32 0) 4 Tryz.underlying48 hi hz0 hz1 hz2 rfl u3 _ _ _ rfl hown2 rfl rfl hc3 hc4 hbB hszW ?_; intro v1 w1 hown1 hbw1)
      have hit3 : w1.heap[w.heap.size]? = some (.stringIter ⟨l.toArray⟩ (pos + n)) := (hbw1.block _ (by omega)).trans hit2
      refine ⟨⟨pos + n, xs ++ [(r : Int)], by omega, hit3, by simpa [i32s_snoc] using hown1, hbw2.trans (hbw1.mono (by omega)), Lib.hid ?_, by simp; omega⟩, ?_⟩
      · rw [← hP.out, HU.out]; simp
      · rw [iterPos_of hit, iterPos_of hit3]; omega
    · have hnx := range_end Tryz.prog hit hlt
      go_wp2
      go_ret
      have : xs = runes l := by rw [← hP.out, units_end hlt]; simp
      subst this
      exact retRow_of (i32s_length _) (own_mono hown (by omega)) hbw

set_option maxRecDepth 100000 in
set_option maxHeartbeats 16000000 in
theorem pickQuote_c (x a b : Int) (flow single : Bool) (w : World) (hE : Env w) (hT : Tz w) (_x1 : -9223372036854775808 ≤ x) (_x2 : x ≤ 9223372036854775807) (_a1 : -9223372036854775808 ≤ a) (_a2 : a ≤ 9223372036854775807) (_b1 : -9223372036854775808 ≤ b) (_b2 : b ≤ 9223372036854775807) :
    Calls Tryz.prog 8 #[.int .i64 x, .int .i64 a, .int .i64 b, .bool flow, .bool single] w fun e w' => e = .returned (.bool true) ∧ Below w.heap.size w w' := by
  have hA := At.refl hE
  have hWa := fun w => word_c a w
  have hWb := fun w => word_c b w
  have hSx := fun w => scalar_c x w
  have hxl : (scalarOf x : Int) ≤ 1114111 := by have := low_lt x 1114112 (by omega); unfold scalarOf; split <;> omega
  have hal := wordOf_len a
  have hbl := wordOf_len b
  have htl := enc_le [(scalarOf x : Int)]
  simp only [List.length_singleton] at htl
  have hTx := fun v w hv => text_c [(scalarOf x : Int)] v w hv (by intro y hy; simp at hy; omega) (by simp)
  have hsl := fun w => sl_new (w := w) (e := 21) (i32s [(scalarOf x : Int)]) (by simp [i32s])
  generalize enc [(scalarOf x : Int)] = tx at *
  generalize (scalarOf x : Int) = sx at *
  generalize wordOf a = wa at *
  generalize wordOf b = wb at *
  go_enter Tryz.func8, Tryz.ntmps8
  go_upto_region 2 with fail
  refine (hWa _).mono ?_
  rintro e w1 ⟨rfl, hb⟩
  have hA := hA.step hb
  clear hb
  go_upto_region 2 with fail
  refine (hSx _).mono ?_
  rintro e w2 ⟨rfl, rfl⟩
  go_upto_region 2 with fail
  refine (hTx _ _ (hsl _)).mono ?_
  rintro e w2 ⟨rfl, hb⟩
  have hA := (hA.alloc _).step hb
  clear hb hTx hsl
  go_upto_region 2 with fail
  refine (hWb _).mono ?_
  rintro e w3 ⟨rfl, hb⟩
  have hA := hA.step hb
  clear hb hWa hWb hSx
  go_upto_region 2 with fail
  obtain ⟨s, hs⟩ : ∃ s, wa ++ tx ++ wb = s := ⟨_, rfl⟩
  have hs0 : s ≠ [] := by rw [← hs]; intro h; have := congrArg List.length h; simp only [List.length_append, List.length_nil] at this; omega
  have hsl : s.length ≤ 10 := by rw [← hs]; simp; omega
  obtain ⟨hq3, hqr⟩ := quote_runes s single hs0
  have hql := quote_le s single
  have hSc := fun w => scalar23_c s [] 2 w
  rw [show styleOf 2 = 3 from rfl] at hSc
  have hSh := fun w hE hT => pshow_c 1 (-1) 0 80 2 0 3 [] s single false false false false flow w hE (by omega) (by omega) hT
  have hSt := fun w hE => style_c 1 (-1) 0 80 2 0 3 [] s single false false false false flow false w hE (by omega) (by omega)
  rw [show (!([] : List UInt8).isEmpty) = false from rfl, style_quote] at hSt
  rw [show (!([] : List UInt8).isEmpty) = false from rfl, show_quote] at hSh
  have hRu := fun w => runes_c (quoteM s single) w (by omega)
  have hSg := fun w hE => single_c s w hE (by omega)
  have hQu := fun w hE hT => quote_c s single w hE hT (by omega)
  have hql2 : (quoteM s single).length ≤ 200 := by omega
  have hrl : (runes (quoteM s single)).length ≤ 200 := by rw [runes_length]; exact Nat.le_trans (width_le _) hql2
  generalize quoteM s single = q at *
  generalize runes q = rs at *
  obtain ⟨T, hTd⟩ : ∃ T : Nat, T = if (single && singleM s) = true then 2 else 3 := ⟨_, rfl⟩
  rw [← hTd] at hSt
  generalize singleM s = sg at *
  have HT := Lib.hid hTd
  have HR := Lib.hid hqr
  clear hTd hqr hal hbl htl hql
  unfold scCells at hSc hSh hSt
  unfold cfCells at hSh hSt
  first | rw [hs] | (rw [List.append_assoc] at hs; rw [hs])
  go_upto_region 3 with fail
  refine (hSc _).mono ?_
  rintro e w4 ⟨rfl, hb⟩
  have hA := hA.step hb
  clear hb hSc
  go_upto_region 3 with fail
  have hA := hA.alloc (.cells #[.int .i64 1, .int .i64 3, .int .i64 (-1), .int .i64 0, .string ⟨#[]⟩, .string ⟨#[]⟩, .string ⟨s.toArray⟩, .slice none 0 0, .slice none 0 0, .slice none 0 0, .bool false, .string ⟨#[]⟩] 28)
  have hN : Full (w4.alloc (.cells #[.int .i64 1, .int .i64 3, .int .i64 (-1), .int .i64 0, .string ⟨#[]⟩, .string ⟨#[]⟩, .string ⟨s.toArray⟩, .slice none 0 0, .slice none 0 0, .slice none 0 0, .bool false, .string ⟨#[]⟩] 28)) w4.heap.size 28 [.int .i64 1, .int .i64 3, .int .i64 (-1), .int .i64 0, .string ⟨#[]⟩, .string ⟨#[]⟩, .string ⟨s.toArray⟩, .slice none 0 0, .slice none 0 0, .slice none 0 0, .bool false, .string ⟨#[]⟩] := Full.new w4 _ _
  generalize w4.alloc (.cells #[.int .i64 1, .int .i64 3, .int .i64 (-1), .int .i64 0, .string ⟨#[]⟩, .string ⟨#[]⟩, .string ⟨s.toArray⟩, .slice none 0 0, .slice none 0 0, .slice none 0 0, .bool false, .string ⟨#[]⟩] 28) = W at *
  generalize w4.heap.size = g at *
  obtain ⟨r0, r1, r2, r3, r4, r5, r6, r7, r8, r9, r10, r11⟩ := hN.c12
  go_upto_region 4 with fail
  refine (hSh _ hA.env (fun _ => hT.below hA.below)).mono ?_
  rintro e w5 ⟨rfl, hb⟩
  have hA := hA.step hb
  have hN := hN.below hb hN.lt
  clear r0 r1 r2 r3 r4 r5 r6 r7 r8 r9 r10 r11 hb hSh
  obtain ⟨r0, r1, r2, r3, r4, r5, r6, r7, r8, r9, r10, r11⟩ := hN.c12
  go_upto_region 4 with fail
  go_upto_region 5 with fail
  refine (hSt _ hA.env).mono ?_
  rintro e w6 ⟨rfl, hb⟩
  have hA := hA.step hb
  clear r0 r1 r2 r3 r4 r5 r6 r7 r8 r9 r10 r11 hb hSt hN
  go_upto_region 5 with fail
  go_upto_region 6 with fail
  refine (hRu _).mono ?_
  rintro e w7 ⟨ra, rc, rfl, hown, hb⟩
  have hA := hA.step hb
  clear hb hRu
  have hv := Sl.own hown
  rw [i32s_length] at *
  obtain ⟨ad, cap, he, hce⟩ := Sl.ints (k := .i32) hv
  cases he
  have HC := Lib.hid hce
  clear hv hown hce
  have h2 : (2 : Int) < (rs.length : Int) := by omega
  go_wp2_with fail
  go_loopg [16] rs.length (fun gk s16 wr => ∃ k : Nat, k ≤ rs.length ∧ gk = rs.length - k ∧ s16 = .int .i64 k ∧ w7 = wr)
  case atStart => exact ⟨0, Nat.zero_le _, rfl, rfl, rfl⟩
  case round =>
    obtain ⟨k, hk, hgk, rfl, rfl⟩ := hrel
    by_cases hlt : k < rs.length
    · obtain ⟨b0, off, rfl, hb0, hck⟩ := HC.out k hlt
      obtain ⟨hp1, hp2⟩ := HR.out (rs[k]'hlt) (List.getElem_mem hlt)
      have hPr := fun w => printable_c (rs[k]'hlt) w
      rw [hp1] at hPr
      generalize rs[k]'hlt = rk at *
      have g10 : (rk == 10) = false := by rw [beq_eq_false_iff_ne]; exact hp2
      clear hp1 hp2
      go_wp2_with fail
      refine (hPr _).mono ?_
      rintro e w8 ⟨rfl, rfl⟩
      go_wp2_with fail
      go_roundg (rs.length - (k + 1))
      case measure => omega
      case rel => exact ⟨k + 1, by omega, rfl, by go_num, rfl⟩
    · obtain rfl : k = rs.length := by omega
      have hTT := HT.out
      have hTz := fun w' (h : At w w') => hT.below h.below
      clear HC HR HT
      cases single
      · obtain rfl : T = 3 := hTT
        go_wp2_with fail
        refine (hQu _ hA.env (hTz _ hA)).mono ?_
        rintro e w8 ⟨rfl, hb⟩
        have hA := hA.step hb
        go_wp2_with fail
        refine (awake23_c _ hA.env).mono ?_
        rintro e w9 ⟨rfl, hb⟩
        have hA := hA.step hb
        go_wp2_with fail
        go_ret
        exact ⟨rfl, hA.below⟩
      · cases sg
        · obtain rfl : T = 3 := hTT
          go_wp2_with fail
          refine (hSg _ hA.env).mono ?_
          rintro e w8 ⟨rfl, hb⟩
          have hA := hA.step hb
          go_wp2_with fail
          refine (hQu _ hA.env (hTz _ hA)).mono ?_
          rintro e w8 ⟨rfl, hb⟩
          have hA := hA.step hb
          go_wp2_with fail
          refine (awake23_c _ hA.env).mono ?_
          rintro e w9 ⟨rfl, hb⟩
          have hA := hA.step hb
          go_wp2_with fail
          go_ret
          exact ⟨rfl, hA.below⟩
        · obtain rfl : T = 2 := hTT
          go_wp2_with fail
          refine (hSg _ hA.env).mono ?_
          rintro e w8 ⟨rfl, hb⟩
          have hA := hA.step hb
          go_wp2_with fail
          refine (hQu _ hA.env (hTz _ hA)).mono ?_
          rintro e w8 ⟨rfl, hb⟩
          have hA := hA.step hb
          go_wp2_with fail
          refine (awake23_c _ hA.env).mono ?_
          rintro e w9 ⟨rfl, hb⟩
          have hA := hA.step hb
          go_wp2_with fail
          go_ret
          exact ⟨rfl, hA.below⟩
end Go.Proofs.YtjfgcbikdibjeaaGreatDoor
