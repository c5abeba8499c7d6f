/- The walk of bosketref1.Twice. -/
import Derived.Test.YtjnmgmepolpcdaaDoorWTwice
import Derived.Test.YtjnmgmepolpcdaaDoorWRefWords
import Derived.Deep.QuietTactic
import Derived.BigQuiet
namespace Go.Proofs.YtjnmgmepolpcdaaDoor
open Go.RowKit U Go.Proofs

theorem own_at {w : World} {B E : Nat} {a : Option Addr} {c : Nat} {ws : List (List UInt8)} (h : w.ownsRow B E 1 (.slice a (strs ws).length c) (strs ws).length (strs ws)) (hp : 0 < ws.length) :
    ∃ A, a = some ⟨A, 0, none⟩ ∧ Sl w (.slice (some ⟨A, 0, none⟩) ws.length c) (strs ws) := by
  rw [strs_length] at h
  obtain ⟨g, cap, hv, _, _⟩ := h.form hp
  injection hv with h1 _ _
  subst h1
  exact ⟨g, rfl, Sl.own h⟩
set_option maxRecDepth 100000 in
set_option maxHeartbeats 16000000 in
theorem rtwice_c (xs : List (List UInt8)) (v : Value) (d : List UInt8) (w : World) (hE : Env w) (hv : Sl w v (strs xs)) (hxl : xs.length ≤ 1073741824) (hx : ∀ x ∈ xs, x.length ≤ 1000000) (hd : d.length ≤ 1000000) :
    Calls Tryd.prog 36 #[v, .string ⟨d.toArray⟩] w fun e w' => e = .returned (.bool (twiceM xs d)) ∧ Below w.heap.size w w' := by
  have hA := At.refl hE
  obtain ⟨a, c, rfl, hcells⟩ := Sl.strs' hv
  have HC := Lib.hid hcells
  have HX := Lib.hid hx
  clear hcells hv hx
  have hWd := fun w => rwords_c d w (by omega)
  unfold RetRow at hWd
  have hT : twiceM xs d = xs.any fun x => clash (wordsM d) (wordsM x) := rfl
  generalize twiceM xs d = res at *
  have hwl : (wordsM d).length ≤ 1000001 := by have := (wordsF_len d []).1; unfold wordsM; omega
  generalize wordsM d = ws at *
  have HT := Lib.hid hT
  clear hT
  go_enter Tryd.func36, Tryd.ntmps36
  go_wp2_with fail
  refine (hWd _).mono ?_
  rintro e w1 ⟨av, cv, rfl, hown, hb⟩
  have hA := hA.step hb
  clear hb hWd
  by_cases hw0 : ws.length = 0
  · have hres : Hid (res = false) := Lib.hid (by
      rw [HT.out, List.any_eq_false]
      intro x _
      unfold clash clashN
      rw [decide_eq_true_eq]
      exact fun h => h.1 hw0)
    rw [strs_length, hw0]
    clear hown hw0 HT
    go_wp2_with fail
    go_loop [6] (fun i => i = .int .i64 0) (fun _ => 0)
    case atStart => rfl
    case round =>
      subst hrel
      go_wp2_with fail
      all_goals (go_ret; exact ⟨ret_bool (by rw [hres.out]), hA.below⟩)
  obtain ⟨A, rfl, hsl⟩ := own_at hown (by omega)
  rw [strs_length]
  clear hown
  have HL0 : Hid (0 < ws.length → A < w1.heap.size ∧ w1.cell? ⟨A, 0, none⟩ = some (.string ⟨(ws.getD 0 []).toArray⟩)) := Lib.hid (fun h => sl_at hsl h)
  have HL1 : Hid (1 < ws.length → A < w1.heap.size ∧ w1.cell? ⟨A, 1, none⟩ = some (.string ⟨(ws.getD 1 []).toArray⟩)) := Lib.hid (fun h => sl_at hsl h)
  have HCL : Hid (∀ ks, clash ws ks = clashN ws.length ks.length (ws.getD 0 []) (ws.getD 1 []) (ks.getD 0 []) (ks.getD 1 [])) := Lib.hid (fun ks => rfl)
  clear hsl
  generalize ws.getD 0 [] = l0 at *
  generalize ws.getD 1 [] = l1 at *
  generalize hcw : clash ws = cl at *
  have HT2 : Hid (res = xs.any fun x => cl (wordsM x)) := Lib.hid (by rw [HT.out, ← hcw])
  have HCL2 : Hid (∀ ks, cl ks = clashN ws.length ks.length l0 l1 (ks.getD 0 []) (ks.getD 1 [])) := HCL
  clear hcw HT HCL
  generalize ws.length = n at *
  have hnp : 0 < n := by omega
  go_wp2_with fail
  go_loopw [6, 7] (fun i _ wr => ∃ k : Nat, k ≤ xs.length ∧ i = .int .i64 k ∧ At w wr ∧ Below w1.heap.size w1 wr ∧ Hid ((xs.take k).any (fun x => cl (wordsM x)) = false)) (fun i _ _ => xs.length - (intOf i).toNat)
  case atStart => exact ⟨0, Nat.zero_le _, rfl, hA, Below.refl _ _, Lib.hid rfl⟩
  case round =>
    obtain ⟨k, hk, rfl, hA, hbw, hN⟩ := hrel
    by_cases hlt : k < xs.length
    · obtain ⟨b, off, rfl, hb, hck0⟩ := HC.out k hlt
      have hck : wr.cell? ⟨b, off + k, none⟩ = some (.string ⟨(xs[k]'hlt).toArray⟩) := (hA.below.cell (p := ⟨b, off + k, none⟩) hb).trans hck0
      have hxk := HX.out _ (List.getElem_mem hlt)
      have hmem := List.getElem_mem hlt
      have htk : xs.take (k + 1) = xs.take k ++ [xs[k]'hlt] := List.take_succ_eq_append_getElem hlt
      generalize xs[k]'hlt = x at *
      clear hck0
      have hYES : cl (wordsM x) = true → res = true := fun h => by rw [HT2.out, List.any_eq_true]; exact ⟨x, hmem, h⟩
      have hNO : cl (wordsM x) = false → (xs.take (k + 1)).any (fun x => cl (wordsM x)) = false := fun h => by rw [htk, List.any_append, hN.out]; simp [h]
      have hWx := fun w => rwords_c x w (by omega)
      unfold RetRow at hWx
      have hkl : (wordsM x).length ≤ 1000001 := by have := (wordsF_len x []).1; unfold wordsM; omega
      have hcl := HCL2.out (wordsM x)
      generalize wordsM x = ks at *
      have HYES := Lib.hid hYES
      have HNO := Lib.hid hNO
      have HCLX := Lib.hid hcl
      clear hYES hNO hcl htk hmem
      go_wp2_with fail
      refine (hWx _).mono ?_
      rintro e w2 ⟨aK, cK, rfl, hown, hb2⟩
      have hA := hA.step hb2
      have hbw := hbw.trans (hb2.mono hbw.size)
      clear hb2 hWx hck
      have HKK : Hid (0 < ks.length → ∃ K, aK = some ⟨K, 0, none⟩ ∧ Sl w2 (.slice (some ⟨K, 0, none⟩) ks.length cK) (strs ks)) := Lib.hid (fun h => own_at hown h)
      rw [strs_length]
      clear hown
      have HK0 : Hid (∀ K, Sl w2 (.slice (some ⟨K, 0, none⟩) ks.length cK) (strs ks) → (0 < ks.length → K < w2.heap.size ∧ w2.cell? ⟨K, 0, none⟩ = some (.string ⟨(ks.getD 0 []).toArray⟩)) ∧ (1 < ks.length → K < w2.heap.size ∧ w2.cell? ⟨K, 1, none⟩ = some (.string ⟨(ks.getD 1 []).toArray⟩))) := Lib.hid (fun K hs => ⟨fun h => sl_at hs h, fun h => sl_at hs h⟩)
      have HKS : Hid (0 < ks.length → ∃ K, aK = some ⟨K, 0, none⟩ ∧ (0 < ks.length → K < w2.heap.size ∧ w2.cell? ⟨K, 0, none⟩ = some (.string ⟨(ks.getD 0 []).toArray⟩)) ∧ (1 < ks.length → K < w2.heap.size ∧ w2.cell? ⟨K, 1, none⟩ = some (.string ⟨(ks.getD 1 []).toArray⟩))) := Lib.hid (fun h => by
        obtain ⟨K, h1, h2⟩ := HKK.out h
        exact ⟨K, h1, HK0.out K h2⟩)
      clear HKK HK0
      generalize ks.getD 0 [] = k0 at *
      generalize ks.getD 1 [] = k1 at *
      generalize hm : ks.length = m at *
      clear hm
      have hcl := HCLX.out
      generalize cl ks = q at *
      clear HCLX
      have hn : ¬ n = 0 := by omega
      by_cases hm : m = 0
      · have g : ((m : Int) == 0) = true := by rw [beq_iff_eq]; omega
        have hq : q = false := by rw [hcl]; unfold clashN; rw [decide_eq_false_iff_not]; exact fun h => h.2.1 hm
        have HN2 := Lib.hid (HNO.out hq)
        clear hq hcl HNO HYES
        clear hm
        go_wp2_with fail
        go_quiet (fail)
        go_wp2_with fail
        refine ⟨⟨k + 1, by omega, by go_num, hA.drewN _, below_q hbw _, HN2⟩, by simp [intOf]; omega⟩
      have gm : ((m : Int) == 0) = false := by rw [beq_eq_false_iff_ne]; omega
      obtain ⟨K, rfl, HK0, HK1⟩ := HKS.out (by omega)
      obtain ⟨hAl, cl0⟩ := HL0.out (by omega)
      obtain ⟨hKl, ck0⟩ := HK0 (by omega)
      have HK1 := Lib.hid HK1
      clear HKS HK0
      have cl0 := (hbw.cell (p := ⟨A, 0, none⟩) hAl).trans cl0
      have hn1 : 0 < n := by omega
      have hm1 : 0 < m := by omega
      have hn2 : (0 : Int) < (n : Int) := by omega
      have hm2 : (0 : Int) < (m : Int) := by omega
      by_cases he : k0 = l0
      · subst he
        by_cases hy : k0 = yamlW
        · subst hy
          have hres : Hid (res = true) := Lib.hid (HYES.out (by rw [hcl]; unfold clashN; rw [decide_eq_true_eq]; exact ⟨hn, hm, rfl, .inl rfl⟩))
          clear hcl HNO HYES hn hm
          unfold yamlW at *
          go_wp2_with fail
          go_quiet (fail)
          go_wp2_with fail
          go_ret
          exact ⟨ret_bool (by rw [hres.out]), (by first | exact (hA.drewN _).below | exact ((hA.drewN _).drewN _).below)⟩
        have gy : (k0 == [37, 89, 65, 77, 76]) = false := by rw [beq_eq_false_iff_ne]; exact hy
        by_cases ht : k0 = tagW
        · subst ht
          by_cases h1 : 1 < n
          · by_cases h2 : 1 < m
            · obtain ⟨_, cl1⟩ := HL1.out h1
              obtain ⟨_, ck1⟩ := HK1.out h2
              have cl1 := (hbw.cell (p := ⟨A, 1, none⟩) hAl).trans cl1
              have h11 : (1 : Int) < (n : Int) := by omega
              have h22 : (1 : Int) < (m : Int) := by omega
              by_cases h3 : l1 = k1
              · subst h3
                have hres : Hid (res = true) := Lib.hid (HYES.out (by rw [hcl]; unfold clashN; rw [decide_eq_true_eq]; exact ⟨hn, hm, rfl, .inr ⟨rfl, h1, h2, rfl⟩⟩))
                clear hcl HNO HYES hn hm gy hy
                unfold tagW at *
                go_wp2_with fail
                go_quiet (fail)
                go_wp2_with fail
                go_quiet (fail)
                go_wp2_with fail
                go_ret
                exact ⟨ret_bool (by rw [hres.out]), (by first | exact (hA.drewN _).below | exact ((hA.drewN _).drewN _).below)⟩
              · have g3 : (k1 == l1) = false := by rw [beq_eq_false_iff_ne]; exact fun hh => h3 hh.symm
                have hq : q = false := by rw [hcl]; unfold clashN; rw [decide_eq_false_iff_not]; exact fun h => h.2.2.2.elim hy (fun h => h3 h.2.2.2)
                have HN2 := Lib.hid (HNO.out hq)
                clear hq hcl HNO HYES
                clear h3 hn hm hy gy
                unfold tagW at *
                go_wp2_with fail
                go_quiet (fail)
                go_wp2_with fail
                go_quiet (fail)
                go_wp2_with fail
                refine ⟨⟨k + 1, by omega, by go_num, hA.drewN _, below_q hbw _, HN2⟩, by simp [intOf]; omega⟩
            · have h22 : decide ((1 : Int) < (m : Int)) = false := by rw [decide_eq_false_iff_not]; omega
              have h11 : (1 : Int) < (n : Int) := by omega
              have hq : q = false := by rw [hcl]; unfold clashN; rw [decide_eq_false_iff_not]; exact fun h => h.2.2.2.elim hy (fun h => h2 h.2.2.1)
              have HN2 := Lib.hid (HNO.out hq)
              clear hq hcl HNO HYES
              clear hn hm hy gy h2
              unfold tagW at *
              go_wp2_with fail
              go_quiet (fail)
              go_wp2_with fail
              go_quiet (fail)
              go_wp2_with fail
              refine ⟨⟨k + 1, by omega, by go_num, hA.drewN _, below_q hbw _, HN2⟩, by simp [intOf]; omega⟩
          · have h11 : decide ((1 : Int) < (n : Int)) = false := by rw [decide_eq_false_iff_not]; omega
            have hq : q = false := by rw [hcl]; unfold clashN; rw [decide_eq_false_iff_not]; exact fun h => h.2.2.2.elim hy (fun h => h1 h.2.1)
            have HN2 := Lib.hid (HNO.out hq)
            clear hq hcl HNO HYES
            clear hn hm hy gy h1
            unfold tagW at *
            go_wp2_with fail
            go_quiet (fail)
            go_wp2_with fail
            go_quiet (fail)
            go_wp2_with fail
            refine ⟨⟨k + 1, by omega, by go_num, hA.drewN _, below_q hbw _, HN2⟩, by simp [intOf]; omega⟩
        · have gt : (k0 == [37, 84, 65, 71]) = false := by rw [beq_eq_false_iff_ne]; exact ht
          have hq : q = false := by rw [hcl]; unfold clashN; rw [decide_eq_false_iff_not]; exact fun h => h.2.2.2.elim hy (fun h => ht h.1)
          have HN2 := Lib.hid (HNO.out hq)
          clear hq hcl HNO HYES
          clear hn hm hy ht
          go_wp2_with fail
          go_quiet (fail)
          go_wp2_with fail
          go_quiet (fail)
          go_wp2_with fail
          refine ⟨⟨k + 1, by omega, by go_num, hA.drewN _, below_q hbw _, HN2⟩, by simp [intOf]; omega⟩
      · have ge : (k0 == l0) = false := by rw [beq_eq_false_iff_ne]; exact he
        have ge2 : (k0 != l0) = true := by rw [bne_iff_ne]; exact he
        have hq : q = false := by rw [hcl]; unfold clashN; rw [decide_eq_false_iff_not]; exact fun h => he h.2.2.1
        have HN2 := Lib.hid (HNO.out hq)
        clear hq hcl HNO HYES
        clear hn hm he
        go_wp2_with fail
        go_quiet (fail)
        go_wp2_with fail
        refine ⟨⟨k + 1, by omega, by go_num, hA.drewN _, below_q hbw _, HN2⟩, by simp [intOf]; omega⟩
    · have hres : Hid (res = false) := Lib.hid (by rw [HT2.out, ← hN.out, List.take_of_length_le (by omega)])
      go_wp2_with fail
      go_ret
      exact ⟨ret_bool (by rw [hres.out]), hA.below⟩
end Go.Proofs.YtjnmgmepolpcdaaDoor
