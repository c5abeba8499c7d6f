/- The walk of bosketlaw10.DireForms. -/
import Derived.Test.YtjnmgmepolpcdaaDoorLawDire0
import Derived.Test.YtjnmgmepolpcdaaDoorLawCoreTells
namespace Go.Proofs.YtjnmgmepolpcdaaDoor
open Go.RowKit U Go.Proofs

def formsL : List (List UInt8) := [[37, 89, 65, 77, 76, 32, 49, 46, 50], [37, 89, 65, 77, 76, 32, 49, 46, 49, 48, 32, 35, 32, 120], [37, 84, 65, 71, 32, 33, 32, 33], [37, 84, 65, 71, 32, 33, 97, 45, 98, 33, 32, 116, 97, 103, 58, 120], [37, 70, 79, 79], [37, 70, 79, 79, 32, 97, 32, 98, 32, 35, 32, 99], [37, 97, 35, 98, 32, 99], [37, 84, 65, 71, 32, 33, 33, 32, 37, 52, 49, 120], [37, 89, 65, 77, 76], [37, 89, 65, 77, 76, 32, 49, 46, 50, 32, 120], [37, 89, 65, 77, 76, 32, 49, 46, 120], [37, 89, 65, 77, 76, 32, 49, 46], [37, 84, 65, 71, 32, 33], [37, 84, 65, 71, 32, 97, 32, 98], [37, 84, 65, 71, 32, 33, 32, 91, 120], [37, 84, 65, 71, 32, 33, 97, 32, 120], [37, 84, 65, 71, 32, 33, 32, 120, 37, 52], [37], [37, 32, 89, 65, 77, 76, 32, 49, 46, 50], [32, 37, 89, 65, 77, 76, 32, 49, 46, 50], [], [89, 65, 77, 76, 32, 49, 46, 50], [37, 84, 65, 71, 32, 33, 32, 35, 32, 120]]
theorem forms_ok : ∀ k, k < 23 → (readM (formsL.getD k [])).2.2.2 = (if k < 8 then 0 else 5) ∧ (formsL.getD k []).length ≤ 40 := by decide +kernel
theorem strs_at2 {xs : List (List UInt8)} {k : Nat} (h : k < xs.length) : (strs xs)[k]? = some (.string ⟨(xs.getD k []).toArray⟩) := by simp [strs, h]
theorem cells_at (w : World) (e : TypeId) (l : List Value) (i : Nat) (x : Value) (hx : l[i]? = some x) : (w.alloc (.cells l.toArray e)).cell? ⟨w.heap.size, i, none⟩ = some x := by
  simp [World.cell?, World.alloc, -World.alloc_eq]
  exact hx
set_option maxRecDepth 100000 in
set_option maxHeartbeats 4000000 in
theorem direForms_c (n : Int) (w : World) (hE : Env w) (_hn0 : -9223372036854775808 ≤ n) (_hn1 : n ≤ 9223372036854775807) :
    Calls Tryd.prog 13 #[.int .i64 n] w fun e w' => e = .returned (.bool true) ∧ Below w.heap.size w w' := by
  have hA := At.refl hE
  have hL := fun w => low_j n 23 (low n 23) w (by omega) (by omega) rfl
  have hk := low_lt n 23 (by omega)
  generalize low n 23 = k at *
  obtain ⟨o1, o2⟩ := forms_ok k hk
  have c0 := cells_at w 9 (strs formsL) k _ (strs_at2 (xs := formsL) hk)
  change (w.alloc (.cells #[.string ⟨#[37, 89, 65, 77, 76, 32, 49, 46, 50]⟩, .string ⟨#[37, 89, 65, 77, 76, 32, 49, 46, 49, 48, 32, 35, 32, 120]⟩, .string ⟨#[37, 84, 65, 71, 32, 33, 32, 33]⟩, .string ⟨#[37, 84, 65, 71, 32, 33, 97, 45, 98, 33, 32, 116, 97, 103, 58, 120]⟩, .string ⟨#[37, 70, 79, 79]⟩, .string ⟨#[37, 70, 79, 79, 32, 97, 32, 98, 32, 35, 32, 99]⟩, .string ⟨#[37, 97, 35, 98, 32, 99]⟩, .string ⟨#[37, 84, 65, 71, 32, 33, 33, 32, 37, 52, 49, 120]⟩, .string ⟨#[37, 89, 65, 77, 76]⟩, .string ⟨#[37, 89, 65, 77, 76, 32, 49, 46, 50, 32, 120]⟩, .string ⟨#[37, 89, 65, 77, 76, 32, 49, 46, 120]⟩, .string ⟨#[37, 89, 65, 77, 76, 32, 49, 46]⟩, .string ⟨#[37, 84, 65, 71, 32, 33]⟩, .string ⟨#[37, 84, 65, 71, 32, 97, 32, 98]⟩, .string ⟨#[37, 84, 65, 71, 32, 33, 32, 91, 120]⟩, .string ⟨#[37, 84, 65, 71, 32, 33, 97, 32, 120]⟩, .string ⟨#[37, 84, 65, 71, 32, 33, 32, 120, 37, 52]⟩, .string ⟨#[37]⟩, .string ⟨#[37, 32, 89, 65, 77, 76, 32, 49, 46, 50]⟩, .string ⟨#[32, 37, 89, 65, 77, 76, 32, 49, 46, 50]⟩, .string ⟨#[]⟩, .string ⟨#[89, 65, 77, 76, 32, 49, 46, 50]⟩, .string ⟨#[37, 84, 65, 71, 32, 33, 32, 35, 32, 120]⟩] 9)).cell? ⟨w.heap.size, k, none⟩ = _ at c0
  have hA := hA.alloc (.cells #[.string ⟨#[37, 89, 65, 77, 76, 32, 49, 46, 50]⟩, .string ⟨#[37, 89, 65, 77, 76, 32, 49, 46, 49, 48, 32, 35, 32, 120]⟩, .string ⟨#[37, 84, 65, 71, 32, 33, 32, 33]⟩, .string ⟨#[37, 84, 65, 71, 32, 33, 97, 45, 98, 33, 32, 116, 97, 103, 58, 120]⟩, .string ⟨#[37, 70, 79, 79]⟩, .string ⟨#[37, 70, 79, 79, 32, 97, 32, 98, 32, 35, 32, 99]⟩, .string ⟨#[37, 97, 35, 98, 32, 99]⟩, .string ⟨#[37, 84, 65, 71, 32, 33, 33, 32, 37, 52, 49, 120]⟩, .string ⟨#[37, 89, 65, 77, 76]⟩, .string ⟨#[37, 89, 65, 77, 76, 32, 49, 46, 50, 32, 120]⟩, .string ⟨#[37, 89, 65, 77, 76, 32, 49, 46, 120]⟩, .string ⟨#[37, 89, 65, 77, 76, 32, 49, 46]⟩, .string ⟨#[37, 84, 65, 71, 32, 33]⟩, .string ⟨#[37, 84, 65, 71, 32, 97, 32, 98]⟩, .string ⟨#[37, 84, 65, 71, 32, 33, 32, 91, 120]⟩, .string ⟨#[37, 84, 65, 71, 32, 33, 97, 32, 120]⟩, .string ⟨#[37, 84, 65, 71, 32, 33, 32, 120, 37, 52]⟩, .string ⟨#[37]⟩, .string ⟨#[37, 32, 89, 65, 77, 76, 32, 49, 46, 50]⟩, .string ⟨#[32, 37, 89, 65, 77, 76, 32, 49, 46, 50]⟩, .string ⟨#[]⟩, .string ⟨#[89, 65, 77, 76, 32, 49, 46, 50]⟩, .string ⟨#[37, 84, 65, 71, 32, 33, 32, 35, 32, 120]⟩] 9)
  generalize hW : w.alloc (.cells #[.string ⟨#[37, 89, 65, 77, 76, 32, 49, 46, 50]⟩, .string ⟨#[37, 89, 65, 77, 76, 32, 49, 46, 49, 48, 32, 35, 32, 120]⟩, .string ⟨#[37, 84, 65, 71, 32, 33, 32, 33]⟩, .string ⟨#[37, 84, 65, 71, 32, 33, 97, 45, 98, 33, 32, 116, 97, 103, 58, 120]⟩, .string ⟨#[37, 70, 79, 79]⟩, .string ⟨#[37, 70, 79, 79, 32, 97, 32, 98, 32, 35, 32, 99]⟩, .string ⟨#[37, 97, 35, 98, 32, 99]⟩, .string ⟨#[37, 84, 65, 71, 32, 33, 33, 32, 37, 52, 49, 120]⟩, .string ⟨#[37, 89, 65, 77, 76]⟩, .string ⟨#[37, 89, 65, 77, 76, 32, 49, 46, 50, 32, 120]⟩, .string ⟨#[37, 89, 65, 77, 76, 32, 49, 46, 120]⟩, .string ⟨#[37, 89, 65, 77, 76, 32, 49, 46]⟩, .string ⟨#[37, 84, 65, 71, 32, 33]⟩, .string ⟨#[37, 84, 65, 71, 32, 97, 32, 98]⟩, .string ⟨#[37, 84, 65, 71, 32, 33, 32, 91, 120]⟩, .string ⟨#[37, 84, 65, 71, 32, 33, 97, 32, 120]⟩, .string ⟨#[37, 84, 65, 71, 32, 33, 32, 120, 37, 52]⟩, .string ⟨#[37]⟩, .string ⟨#[37, 32, 89, 65, 77, 76, 32, 49, 46, 50]⟩, .string ⟨#[32, 37, 89, 65, 77, 76, 32, 49, 46, 50]⟩, .string ⟨#[]⟩, .string ⟨#[89, 65, 77, 76, 32, 49, 46, 50]⟩, .string ⟨#[37, 84, 65, 71, 32, 33, 32, 35, 32, 120]⟩] 9) = W at *
  have HW := Lib.hid hW
  clear hW
  generalize formsL.getD k [] = a at *
  have hR := fun w hE => read_c a w hE (by omega)
  generalize readM a = r at *
  obtain ⟨r1, r2, r3, r4⟩ := r
  simp only [] at o1 hR
  by_cases h8 : k < 8
  all_goals
    first | rw [if_pos h8] at o1 | rw [if_neg h8] at o1
    subst o1
    go_enter Tryd.func13, Tryd.ntmps13
    go_wp2_with fail
    rw [HW.out]
    refine (hL _).mono ?_
    rintro e w1 ⟨rfl, rfl⟩
    go_wp2_with fail
    refine (hR _ hA.env).mono ?_
    rintro e w2 ⟨rfl, hb⟩
    have hA := hA.step hb
    clear hb
    go_wp2_with fail
    refine (awake10_c _ hA.env).mono ?_
    rintro e w3 ⟨rfl, hb⟩
    have hA := hA.step hb
    clear hb
    go_wp2_with fail
    go_ret
    first | exact ⟨rfl, hA.below⟩ | exact ⟨ret_bool (by simp <;> omega), hA.below⟩
end Go.Proofs.YtjnmgmepolpcdaaDoor
