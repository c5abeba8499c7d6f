/- The walk of dire.right. -/
import Derived.Test.YtjnmgmepolpcdaaDoorWDire2
namespace Go.Proofs.YtjnmgmepolpcdaaDoor
open Go.RowKit U Go.Proofs

def yamlW : List UInt8 := [37, 89, 65, 77, 76]
def tagW : List UInt8 := [37, 84, 65, 71]
/-- Are words a directive? -/
def rightM (ws : List (List UInt8)) : Bool :=
  if ws.length = 0 ∨ (ws.getD 0 []).length < 2 ∨ byt (ws.getD 0 []) 0 ≠ 37 then false
  else if ws.getD 0 [] = yamlW then decide (ws.length = 2) && oneM (ws.getD 1 [])
  else if ws.getD 0 [] = tagW then decide (ws.length = 3) && (handledM (ws.getD 1 []) && aheadM (ws.getD 2 []))
  else true
set_option maxRecDepth 100000 in
set_option maxHeartbeats 8000000 in
theorem right_c (ws : List (List UInt8)) (v : Value) (w : World) (hv : Sl w v (strs ws)) (hlen : ws.length ≤ 1073741824) (hx : ∀ x ∈ ws, 0 < x.length ∧ x.length ≤ 1073741000) :
    Calls Tryd.prog 55 #[v] w fun e w' => e = .returned (.bool (rightM ws)) ∧ Below w.heap.size w w' := by
  obtain ⟨ad, c, rfl, hc⟩ := Sl.strs' hv
  clear hv
  have hb0 := Below.refl w.heap.size w
  by_cases h0 : ws.length = 0
  · have hr : rightM ws = false := by rw [rightM, if_pos (.inl h0)]
    rw [hr, h0]
    clear hc hr h0 hx
    go_enter Tryd.func55, Tryd.ntmps55
    go_wp2_with fail
    go_ret
    exact ⟨rfl, hb0⟩
  have hp : 0 < ws.length := by omega
  obtain ⟨b, off, rfl, hb, hc0⟩ := hc 0 hp
  rw [Nat.add_zero] at hc0
  have hg0 : ws.getD 0 [] = ws[0]'hp := by simp [List.getD, hp]
  obtain ⟨hx1, hx2⟩ := hx _ (List.getElem_mem hp)
  have hR : rightM ws = if ws.length = 0 ∨ (ws[0]'hp).length < 2 ∨ byt (ws[0]'hp) 0 ≠ 37 then false
      else if ws[0]'hp = yamlW then decide (ws.length = 2) && oneM (ws.getD 1 [])
      else if ws[0]'hp = tagW then decide (ws.length = 3) && (handledM (ws.getD 1 []) && aheadM (ws.getD 2 []))
      else true := by rw [rightM, hg0]
  have h1 : 1 < ws.length → w.cell? ⟨b, off + 1, none⟩ = some (.string ⟨(ws.getD 1 []).toArray⟩) ∧ (ws.getD 1 []).length ≤ 1073741000 := by
    intro h
    obtain ⟨b2, off2, he, _, hcc⟩ := hc 1 h
    simp only [Option.some.injEq, Addr.mk.injEq, and_true] at he
    obtain ⟨rfl, rfl⟩ := he
    have hg : ws.getD 1 [] = ws[1]'h := by simp [List.getD, h]
    rw [hg]
    exact ⟨hcc, (hx _ (List.getElem_mem h)).2⟩
  have h2 : 2 < ws.length → w.cell? ⟨b, off + 2, none⟩ = some (.string ⟨(ws.getD 2 []).toArray⟩) ∧ (ws.getD 2 []).length ≤ 1073741000 ∧ 0 < (ws.getD 2 []).length := by
    intro h
    obtain ⟨b2, off2, he, _, hcc⟩ := hc 2 h
    simp only [Option.some.injEq, Addr.mk.injEq, and_true] at he
    obtain ⟨rfl, rfl⟩ := he
    have hg : ws.getD 2 [] = ws[2]'h := by simp [List.getD, h]
    rw [hg]
    exact ⟨hcc, (hx _ (List.getElem_mem h)).2, (hx _ (List.getElem_mem h)).1⟩
  clear hc hx hg0
  generalize ws[0]'hp = a at *
  generalize ws.getD 1 [] = a1 at *
  generalize ws.getD 2 [] = a2 at *
  generalize rightM ws = res at *
  generalize ws.length = n at *
  have g0 : ((n : Int) == 0) = false := by rw [beq_eq_false_iff_ne]; omega
  have H1 := Lib.hid h1
  have H2 := Lib.hid h2
  clear h1 h2
  by_cases hs : a.length < 2
  · have hr : Hid (res = false) := Lib.hid (by rw [hR, if_pos (.inr (.inl hs))])
    clear hR h0
    go_enter Tryd.func55, Tryd.ntmps55
    go_wp2_with fail
    go_ret
    exact ⟨ret_bool (by rw [hr.out]), hb0⟩
  by_cases h37 : byt a 0 = 37
  · have g37 : ((byt a 0 : Int) != 37) = false := by simp; omega
    have hR2 : res = if a = yamlW then decide (n = 2) && oneM a1 else if a = tagW then decide (n = 3) && (handledM a1 && aheadM a2) else true := by
      rw [hR, if_neg (fun h => h.elim h0 (fun h => h.elim hs (fun h => h h37)))]
    clear hR h37 h0
    by_cases hy : a = yamlW
    · rw [if_pos hy] at hR2
      subst hy
      by_cases hn : n = 2
      · obtain ⟨c1, l1⟩ := H1.out (by omega)
        have hr : Hid (res = oneM a1) := Lib.hid (by rw [hR2, hn]; rfl)
        have g2 : ((n : Int) == 2) = true := by rw [beq_iff_eq]; omega
        have hn1 : 1 < n := by omega
        clear hR2 hn
        unfold yamlW at *
        go_enter Tryd.func55, Tryd.ntmps55
        go_wp2_with fail
        refine (one_c a1 _ (by omega)).mono ?_
        rintro e w1 ⟨rfl, hb0⟩
        go_wp2_with fail
        go_ret
        exact ⟨ret_bool (by rw [hr.out]), hb0⟩
      · have hr : Hid (res = false) := Lib.hid (by rw [hR2, decide_eq_false hn]; rfl)
        have g2 : ((n : Int) == 2) = false := by rw [beq_eq_false_iff_ne]; omega
        clear hR2 hn
        unfold yamlW at *
        go_enter Tryd.func55, Tryd.ntmps55
        go_wp2_with fail
        go_ret
        exact ⟨ret_bool (by rw [hr.out]), hb0⟩
    rw [if_neg hy] at hR2
    have gy : (a == [37, 89, 65, 77, 76]) = false := by rw [beq_eq_false_iff_ne]; exact hy
    clear hy
    by_cases hy : a = tagW
    · rw [if_pos hy] at hR2
      subst hy
      by_cases hn : n = 3
      · obtain ⟨c1, l1⟩ := H1.out (by omega)
        obtain ⟨c2, l2, l3⟩ := H2.out (by omega)
        have hr : Hid (res = (handledM a1 && aheadM a2)) := Lib.hid (by rw [hR2, hn]; rfl)
        have g2 : ((n : Int) == 3) = true := by rw [beq_iff_eq]; omega
        have hn1 : 2 < n := by omega
        have hC1 := fun w => handled_c a1 w l1
        have hC2 := fun w => ahead_c a2 w l2 l3
        clear hR2 hn gy
        unfold tagW at *
        generalize handledM a1 = x at *
        generalize aheadM a2 = y at *
        cases x with
        | true =>
          go_enter Tryd.func55, Tryd.ntmps55
          go_wp2_with fail
          refine (hC1 _).mono ?_
          rintro e w1 ⟨rfl, rfl⟩
          go_wp2_with fail
          refine (hC2 _).mono ?_
          rintro e w1 ⟨rfl, rfl⟩
          go_wp2_with fail
          go_ret
          exact ⟨ret_bool (by rw [hr.out]; rfl), hb0⟩
        | false =>
          go_enter Tryd.func55, Tryd.ntmps55
          go_wp2_with fail
          refine (hC1 _).mono ?_
          rintro e w1 ⟨rfl, rfl⟩
          go_wp2_with fail
          go_ret
          exact ⟨ret_bool (by rw [hr.out]; rfl), hb0⟩
      · have hr : Hid (res = false) := Lib.hid (by rw [hR2, decide_eq_false hn]; rfl)
        have g2 : ((n : Int) == 3) = false := by rw [beq_eq_false_iff_ne]; omega
        clear hR2 hn gy
        unfold tagW at *
        go_enter Tryd.func55, Tryd.ntmps55
        go_wp2_with fail
        go_ret
        exact ⟨ret_bool (by rw [hr.out]), hb0⟩
    · have gt : (a == [37, 84, 65, 71]) = false := by rw [beq_eq_false_iff_ne]; exact hy
      have hr : Hid (res = true) := Lib.hid (by rw [hR2, if_neg hy])
      clear hR2 hy
      go_enter Tryd.func55, Tryd.ntmps55
      go_wp2_with fail
      go_ret
      exact ⟨ret_bool (by rw [hr.out]), hb0⟩
  · have g37 : ((byt a 0 : Int) != 37) = true := by simp; omega
    have hr : Hid (res = false) := Lib.hid (by rw [hR, if_pos (.inr (.inr h37))])
    clear hR h0 h37
    go_enter Tryd.func55, Tryd.ntmps55
    go_wp2_with fail
    go_ret
    exact ⟨ret_bool (by rw [hr.out]), hb0⟩
end Go.Proofs.YtjnmgmepolpcdaaDoor
