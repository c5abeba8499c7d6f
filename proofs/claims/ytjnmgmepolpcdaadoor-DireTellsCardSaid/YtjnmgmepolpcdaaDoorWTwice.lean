/- The walk of dire.Twice. -/
import Derived.Test.YtjnmgmepolpcdaaDoorWRead
import Derived.Deep.QuietTactic
import Derived.BigQuiet
namespace Go.Proofs.YtjnmgmepolpcdaaDoor
open Go.RowKit U Go.Proofs

theorem below_q {B : Nat} {w0 w : World} (h : Below B w0 w) : ∀ n, Below B w0 (w.drewN n)
  | 0 => h
  | n + 1 => (below_q h n).drew
theorem sl_at {w : World} {A n c : Nat} {ws : List (List UInt8)} (h : Sl w (.slice (some ⟨A, 0, none⟩) n c) (strs ws)) {i : Nat} (hi : i < ws.length) : A < w.heap.size ∧ w.cell? ⟨A, i, none⟩ = some (.string ⟨(ws.getD i []).toArray⟩) := by
  obtain ⟨ad, c', he, hcell⟩ := Sl.strs' h
  obtain ⟨b, off, h2, hlt, hc⟩ := hcell i hi
  injection he with he1 _ _
  subst he1
  simp only [Option.some.injEq, Addr.mk.injEq, and_true] at h2
  obtain ⟨rfl, rfl⟩ := h2
  rw [Nat.zero_add] at hc
  refine ⟨hlt, ?_⟩
  rw [hc]
  simp [List.getD, hi]
/-- Does one directive's first words stand against another one's? -/
def clashN (n m : Nat) (l0 l1 k0 k1 : List UInt8) : Bool := decide (n ≠ 0 ∧ m ≠ 0 ∧ k0 = l0 ∧ (l0 = yamlW ∨ (l0 = tagW ∧ 1 < n ∧ 1 < m ∧ l1 = k1)))
def clash (ws ks : List (List UInt8)) : Bool := clashN ws.length ks.length (ws.getD 0 []) (ws.getD 1 []) (ks.getD 0 []) (ks.getD 1 [])
def twiceM (xs : List (List UInt8)) (d : List UInt8) : Bool := xs.any fun x => clash (wordsM d) (wordsM x)
set_option maxRecDepth 100000 in
set_option maxHeartbeats 16000000 in
theorem twice_c (xs : List (List UInt8)) (v : Value) (d : List UInt8) (w : World) (hE : Env w) (hv : Sl w v (strs xs)) (hxl : xs.length ≤ 1073741824) (hx : ∀ x ∈ xs, x.length ≤ 1000000) (hd : d.length ≤ 1000000) :
    Calls Tryd.prog 35 #[v, .string ⟨d.toArray⟩] w fun e w' => e = .returned (.bool (twiceM xs d)) ∧ Below w.heap.size w w' := by
  have hA := At.refl hE
  obtain ⟨a, c, rfl, hcells⟩ := Sl.strs' hv
  have HC := Lib.hid hcells
  have HX := Lib.hid hx
  clear hcells hv hx
  have hWd := fun w => words2_c d w (by omega)
  unfold WordsRet at hWd
  have hT : twiceM xs d = xs.any fun x => clash (wordsM d) (wordsM x) := rfl
  generalize twiceM xs d = res at *
  have hwl : (wordsM d).length ≤ 1000001 := by have := (wordsF_len d []).1; unfold wordsM; omega
  generalize wordsM d = ws at *
  have HT := Lib.hid hT
  clear hT
  go_enter Tryd.func35, Tryd.ntmps35
  go_wp2_with fail
  refine (hWd _).mono ?_
  rintro e w1 ⟨A, rfl, hsl, hb⟩
  have hA := hA.step hb
  clear hb hWd
  have HL0 : Hid (0 < ws.length → A < w1.heap.size ∧ w1.cell? ⟨A, 0, none⟩ = some (.string ⟨(ws.getD 0 []).toArray⟩)) := Lib.hid (fun h => sl_at hsl h)
  have HL1 : Hid (1 < ws.length → A < w1.heap.size ∧ w1.cell? ⟨A, 1, none⟩ = some (.string ⟨(ws.getD 1 []).toArray⟩)) := Lib.hid (fun h => sl_at hsl h)
  have HCL : Hid (∀ ks, clash ws ks = clashN ws.length ks.length (ws.getD 0 []) (ws.getD 1 []) (ks.getD 0 []) (ks.getD 1 [])) := Lib.hid (fun ks => rfl)
  clear hsl
  generalize ws.getD 0 [] = l0 at *
  generalize ws.getD 1 [] = l1 at *
  generalize hcw : clash ws = cl at *
  have HT2 : Hid (res = xs.any fun x => cl (wordsM x)) := Lib.hid (by rw [HT.out, ← hcw])
  have HCL2 : Hid (∀ ks, cl ks = clashN ws.length ks.length l0 l1 (ks.getD 0 []) (ks.getD 1 [])) := HCL
  clear hcw HT HCL
  generalize ws.length = n at *
  go_wp2_with fail
  go_loopw [7, 8, 13] (fun _ _ i wr => ∃ k : Nat, k ≤ xs.length ∧ i = .int .i64 k ∧ At w wr ∧ Below w1.heap.size w1 wr ∧ Hid ((xs.take k).any (fun x => cl (wordsM x)) = false)) (fun _ _ i _ => xs.length - (intOf i).toNat)
  case atStart => exact ⟨0, Nat.zero_le _, rfl, hA, Below.refl _ _, Lib.hid rfl⟩
  case round =>
    obtain ⟨k, hk, rfl, hA, hbw, hN⟩ := hrel
    by_cases hlt : k < xs.length
    · obtain ⟨b, off, rfl, hb, hck0⟩ := HC.out k hlt
      have hck : wr.cell? ⟨b, off + k, none⟩ = some (.string ⟨(xs[k]'hlt).toArray⟩) := (hA.below.cell (p := ⟨b, off + k, none⟩) hb).trans hck0
      have hxk := HX.out _ (List.getElem_mem hlt)
      have hmem := List.getElem_mem hlt
      have htk : xs.take (k + 1) = xs.take k ++ [xs[k]'hlt] := List.take_succ_eq_append_getElem hlt
      generalize xs[k]'hlt = x at *
      clear hck0
      have hYES : cl (wordsM x) = true → res = true := fun h => by rw [HT2.out, List.any_eq_true]; exact ⟨x, hmem, h⟩
      have hNO : cl (wordsM x) = false → (xs.take (k + 1)).any (fun x => cl (wordsM x)) = false := fun h => by rw [htk, List.any_append, hN.out]; simp [h]
      have hWx := fun w => words2_c x w (by omega)
      unfold WordsRet at hWx
      have hkl : (wordsM x).length ≤ 1000001 := by have := (wordsF_len x []).1; unfold wordsM; omega
      have hcl := HCL2.out (wordsM x)
      generalize wordsM x = ks at *
      have HYES := Lib.hid hYES
      have HNO := Lib.hid hNO
      have HCLX := Lib.hid hcl
      clear hYES hNO hcl htk hmem
      go_wp2_with fail
      refine (hWx _).mono ?_
      rintro e w2 ⟨K, rfl, hsl, hb2⟩
      have hA := hA.step hb2
      have hbw := hbw.trans (hb2.mono hbw.size)
      clear hb2 hWx hck
      have HK0 : Hid (0 < ks.length → K < w2.heap.size ∧ w2.cell? ⟨K, 0, none⟩ = some (.string ⟨(ks.getD 0 []).toArray⟩)) := Lib.hid (fun h => sl_at hsl h)
      have HK1 : Hid (1 < ks.length → K < w2.heap.size ∧ w2.cell? ⟨K, 1, none⟩ = some (.string ⟨(ks.getD 1 []).toArray⟩)) := Lib.hid (fun h => sl_at hsl h)
      clear hsl
      generalize ks.getD 0 [] = k0 at *
      generalize ks.getD 1 [] = k1 at *
      generalize hm : ks.length = m at *
      clear hm
      have hcl := HCLX.out
      generalize cl ks = q at *
      clear HCLX
      by_cases hn : n = 0
      · have g : ((n : Int) == 0) = true := by rw [beq_iff_eq]; omega
        have hq : q = false := by rw [hcl]; unfold clashN; rw [decide_eq_false_iff_not]; exact fun h => h.1 hn
        have HN2 := Lib.hid (HNO.out hq)
        clear hq hcl HNO HYES
        clear hn
        go_wp2_with fail
        go_quiet (fail)
        go_wp2_with fail
        refine ⟨⟨k + 1, by omega, by go_num, hA.drewN _, below_q hbw _, HN2⟩, by simp [intOf]; omega⟩
      have gn : ((n : Int) == 0) = false := by rw [beq_eq_false_iff_ne]; omega
      by_cases hm : m = 0
      · have g : ((m : Int) == 0) = true := by rw [beq_iff_eq]; omega
        have hq : q = false := by rw [hcl]; unfold clashN; rw [decide_eq_false_iff_not]; exact fun h => h.2.1 hm
        have HN2 := Lib.hid (HNO.out hq)
        clear hq hcl HNO HYES
        clear hm
        go_wp2_with fail
        go_quiet (fail)
        go_wp2_with fail
        refine ⟨⟨k + 1, by omega, by go_num, hA.drewN _, below_q hbw _, HN2⟩, by simp [intOf]; omega⟩
      have gm : ((m : Int) == 0) = false := by rw [beq_eq_false_iff_ne]; omega
      obtain ⟨hAl, cl0⟩ := HL0.out (by omega)
      obtain ⟨hKl, ck0⟩ := HK0.out (by omega)
      have cl0 := (hbw.cell (p := ⟨A, 0, none⟩) hAl).trans cl0
      have hn1 : 0 < n := by omega
      have hm1 : 0 < m := by omega
      have hn2 : (0 : Int) < (n : Int) := by omega
      have hm2 : (0 : Int) < (m : Int) := by omega
      by_cases he : k0 = l0
      · subst he
        by_cases hy : k0 = yamlW
        · subst hy
          have hres : Hid (res = true) := Lib.hid (HYES.out (by rw [hcl]; unfold clashN; rw [decide_eq_true_eq]; exact ⟨hn, hm, rfl, .inl rfl⟩))
          clear hcl HNO HYES hn hm
          unfold yamlW at *
          go_wp2_with fail
          go_quiet (fail)
          go_wp2_with fail
          go_ret
          exact ⟨ret_bool (by rw [hres.out]), (by first | exact (hA.drewN _).below | exact ((hA.drewN _).drewN _).below)⟩
        have gy : (k0 == [37, 89, 65, 77, 76]) = false := by rw [beq_eq_false_iff_ne]; exact hy
        by_cases ht : k0 = tagW
        · subst ht
          by_cases h1 : 1 < n
          · by_cases h2 : 1 < m
            · obtain ⟨_, cl1⟩ := HL1.out h1
              obtain ⟨_, ck1⟩ := HK1.out h2
              have cl1 := (hbw.cell (p := ⟨A, 1, none⟩) hAl).trans cl1
              have h11 : (1 : Int) < (n : Int) := by omega
              have h22 : (1 : Int) < (m : Int) := by omega
              by_cases h3 : l1 = k1
              · subst h3
                have hres : Hid (res = true) := Lib.hid (HYES.out (by rw [hcl]; unfold clashN; rw [decide_eq_true_eq]; exact ⟨hn, hm, rfl, .inr ⟨rfl, h1, h2, rfl⟩⟩))
                clear hcl HNO HYES hn hm gy hy
                unfold tagW at *
                go_wp2_with fail
                go_quiet (fail)
                go_wp2_with fail
                go_quiet (fail)
                go_wp2_with fail
                go_ret
                exact ⟨ret_bool (by rw [hres.out]), (by first | exact (hA.drewN _).below | exact ((hA.drewN _).drewN _).below)⟩
              · have g3 : (l1 == k1) = false := by rw [beq_eq_false_iff_ne]; exact h3
                have hq : q = false := by rw [hcl]; unfold clashN; rw [decide_eq_false_iff_not]; exact fun h => h.2.2.2.elim hy (fun h => h3 h.2.2.2)
                have HN2 := Lib.hid (HNO.out hq)
                clear hq hcl HNO HYES
                clear h3 hn hm hy gy
                unfold tagW at *
                go_wp2_with fail
                go_quiet (fail)
                go_wp2_with fail
                go_quiet (fail)
                go_wp2_with fail
                refine ⟨⟨k + 1, by omega, by go_num, hA.drewN _, below_q hbw _, HN2⟩, by simp [intOf]; omega⟩
            · have h22 : decide ((1 : Int) < (m : Int)) = false := by rw [decide_eq_false_iff_not]; omega
              have h11 : (1 : Int) < (n : Int) := by omega
              have hq : q = false := by rw [hcl]; unfold clashN; rw [decide_eq_false_iff_not]; exact fun h => h.2.2.2.elim hy (fun h => h2 h.2.2.1)
              have HN2 := Lib.hid (HNO.out hq)
              clear hq hcl HNO HYES
              clear hn hm hy gy h2
              unfold tagW at *
              go_wp2_with fail
              go_quiet (fail)
              go_wp2_with fail
              go_quiet (fail)
              go_wp2_with fail
              refine ⟨⟨k + 1, by omega, by go_num, hA.drewN _, below_q hbw _, HN2⟩, by simp [intOf]; omega⟩
          · have h11 : decide ((1 : Int) < (n : Int)) = false := by rw [decide_eq_false_iff_not]; omega
            have hq : q = false := by rw [hcl]; unfold clashN; rw [decide_eq_false_iff_not]; exact fun h => h.2.2.2.elim hy (fun h => h1 h.2.1)
            have HN2 := Lib.hid (HNO.out hq)
            clear hq hcl HNO HYES
            clear hn hm hy gy h1
            unfold tagW at *
            go_wp2_with fail
            go_quiet (fail)
            go_wp2_with fail
            go_quiet (fail)
            go_wp2_with fail
            refine ⟨⟨k + 1, by omega, by go_num, hA.drewN _, below_q hbw _, HN2⟩, by simp [intOf]; omega⟩
        · have gt : (k0 == [37, 84, 65, 71]) = false := by rw [beq_eq_false_iff_ne]; exact ht
          have hq : q = false := by rw [hcl]; unfold clashN; rw [decide_eq_false_iff_not]; exact fun h => h.2.2.2.elim hy (fun h => ht h.1)
          have HN2 := Lib.hid (HNO.out hq)
          clear hq hcl HNO HYES
          clear hn hm hy ht
          go_wp2_with fail
          go_quiet (fail)
          go_wp2_with fail
          go_quiet (fail)
          go_wp2_with fail
          refine ⟨⟨k + 1, by omega, by go_num, hA.drewN _, below_q hbw _, HN2⟩, by simp [intOf]; omega⟩
      · have ge : (k0 == l0) = false := by rw [beq_eq_false_iff_ne]; exact he
        have ge2 : (k0 != l0) = true := by rw [bne_iff_ne]; exact he
        have hq : q = false := by rw [hcl]; unfold clashN; rw [decide_eq_false_iff_not]; exact fun h => he h.2.2.1
        have HN2 := Lib.hid (HNO.out hq)
        clear hq hcl HNO HYES
        clear hn hm he
        go_wp2_with fail
        go_quiet (fail)
        go_wp2_with fail
        refine ⟨⟨k + 1, by omega, by go_num, hA.drewN _, below_q hbw _, HN2⟩, by simp [intOf]; omega⟩
    · have hres : Hid (res = false) := Lib.hid (by rw [HT2.out, ← hN.out, List.take_of_length_le (by omega)])
      go_wp2_with fail
      go_ret
      exact ⟨ret_bool (by rw [hres.out]), hA.below⟩
end Go.Proofs.YtjnmgmepolpcdaaDoor
