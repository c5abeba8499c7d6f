/- What the statements on pick share: a text by a number. -/
import Derived.Test.YtjfgcbikdibjeaaGreatDoorWPick4
import Derived.Test.YtjfgcbikdibjeaaGreatDoorLits
namespace Go.Proofs.YtjfgcbikdibjeaaGreatDoor
open Go.RowKit U Go.Proofs

def word70 : List (List UInt8) := [[], [49], [45, 49], [43, 55], [48, 120, 49, 70], [48, 111, 49, 55], [49, 46, 53], [45, 46, 53], [49, 46], [49, 101, 51], [43, 46, 105, 110, 102], [45, 46, 73, 78, 70], [46, 110, 97, 110], [126], [110, 117, 108, 108], [78, 117, 108, 108], [116, 114, 117, 101], [70, 65, 76, 83, 69], [110, 111], [45], [63], [58], [45, 97], [63, 98], [58, 99], [97, 58], [97, 58, 32, 98], [97, 32, 35, 98], [97, 35, 98], [35, 32, 99], [97, 44, 32, 98], [91, 97, 93], [97, 93], [123], [45, 32, 97], [45, 45, 45], [45, 45, 45, 32, 97], [46, 46, 46], [46, 46, 46, 46], [97, 9, 98], [97, 10], [97, 10, 98], [10], [32, 97], [97, 32], [9, 97], [38, 97], [42, 97], [33, 97], [124], [62], [39, 97], [34, 97], [37, 97], [64, 97], [96, 97], [97, 39, 98], [195, 169], [0], [194, 133], [239, 187, 191], [255], [97, 10, 10], [97, 10, 32, 98, 10], [97, 10, 32, 10], [97, 58, 98], [58, 58], [45, 58], [97, 10, 45, 45, 45, 10], [120, 10, 9, 121]]
def pword (n : Int) : List UInt8 := word70.getD (low n 70) []
theorem word70_all : ∀ x ∈ word70, x.length ≤ 8 := by decide
theorem pword_mem (n : Int) : pword n ∈ word70 := by
  have h := low_lt n 70 (by omega)
  unfold pword
  rw [List.getD_eq_getElem?_getD, List.getElem?_eq_getElem (show low n 70 < word70.length from h)]
  exact List.getElem_mem _
theorem pword_len (n : Int) : (pword n).length ≤ 8 := word70_all _ (pword_mem n)
set_option maxRecDepth 100000 in
set_option maxHeartbeats 4000000 in
theorem pword_c (n : Int) (w : World) : Calls Tryz.prog 22 #[.int .i64 n] w fun e w' => e = .returned (.string ⟨(pword n).toArray⟩) ∧ Below w.heap.size w w' := by
  have hLw := fun w => low_c n 70 w (by omega) (by omega)
  have hk := low_lt n 70 (by omega)
  have hx : pword n = word70.getD (low n 70) [] := rfl
  generalize low n 70 = k at *
  have hlit := lit_at (xs := word70) (k := k) hk
  rw [← hx] at hlit
  generalize pword n = x at *
  clear hx
  have hk0 : (0 : Int) ≤ (k : Int) := by omega
  have hk70 : (k : Int) < 70 := by omega
  have ck := lit_cell w 9 (strs word70) k _ hlit
  change (w.alloc (.cells #[.string ⟨#[]⟩, .string ⟨#[49]⟩, .string ⟨#[45, 49]⟩, .string ⟨#[43, 55]⟩, .string ⟨#[48, 120, 49, 70]⟩, .string ⟨#[48, 111, 49, 55]⟩, .string ⟨#[49, 46, 53]⟩, .string ⟨#[45, 46, 53]⟩, .string ⟨#[49, 46]⟩, .string ⟨#[49, 101, 51]⟩, .string ⟨#[43, 46, 105, 110, 102]⟩, .string ⟨#[45, 46, 73, 78, 70]⟩, .string ⟨#[46, 110, 97, 110]⟩, .string ⟨#[126]⟩, .string ⟨#[110, 117, 108, 108]⟩, .string ⟨#[78, 117, 108, 108]⟩, .string ⟨#[116, 114, 117, 101]⟩, .string ⟨#[70, 65, 76, 83, 69]⟩, .string ⟨#[110, 111]⟩, .string ⟨#[45]⟩, .string ⟨#[63]⟩, .string ⟨#[58]⟩, .string ⟨#[45, 97]⟩, .string ⟨#[63, 98]⟩, .string ⟨#[58, 99]⟩, .string ⟨#[97, 58]⟩, .string ⟨#[97, 58, 32, 98]⟩, .string ⟨#[97, 32, 35, 98]⟩, .string ⟨#[97, 35, 98]⟩, .string ⟨#[35, 32, 99]⟩, .string ⟨#[97, 44, 32, 98]⟩, .string ⟨#[91, 97, 93]⟩, .string ⟨#[97, 93]⟩, .string ⟨#[123]⟩, .string ⟨#[45, 32, 97]⟩, .string ⟨#[45, 45, 45]⟩, .string ⟨#[45, 45, 45, 32, 97]⟩, .string ⟨#[46, 46, 46]⟩, .string ⟨#[46, 46, 46, 46]⟩, .string ⟨#[97, 9, 98]⟩, .string ⟨#[97, 10]⟩, .string ⟨#[97, 10, 98]⟩, .string ⟨#[10]⟩, .string ⟨#[32, 97]⟩, .string ⟨#[97, 32]⟩, .string ⟨#[9, 97]⟩, .string ⟨#[38, 97]⟩, .string ⟨#[42, 97]⟩, .string ⟨#[33, 97]⟩, .string ⟨#[124]⟩, .string ⟨#[62]⟩, .string ⟨#[39, 97]⟩, .string ⟨#[34, 97]⟩, .string ⟨#[37, 97]⟩, .string ⟨#[64, 97]⟩, .string ⟨#[96, 97]⟩, .string ⟨#[97, 39, 98]⟩, .string ⟨#[195, 169]⟩, .string ⟨#[0]⟩, .string ⟨#[194, 133]⟩, .string ⟨#[239, 187, 191]⟩, .string ⟨#[255]⟩, .string ⟨#[97, 10, 10]⟩, .string ⟨#[97, 10, 32, 98, 10]⟩, .string ⟨#[97, 10, 32, 10]⟩, .string ⟨#[97, 58, 98]⟩, .string ⟨#[58, 58]⟩, .string ⟨#[45, 58]⟩, .string ⟨#[97, 10, 45, 45, 45, 10]⟩, .string ⟨#[120, 10, 9, 121]⟩] 9)).cell? ⟨w.heap.size, k, none⟩ = _ at ck
  have hb : Below w.heap.size w (w.alloc (.cells #[.string ⟨#[]⟩, .string ⟨#[49]⟩, .string ⟨#[45, 49]⟩, .string ⟨#[43, 55]⟩, .string ⟨#[48, 120, 49, 70]⟩, .string ⟨#[48, 111, 49, 55]⟩, .string ⟨#[49, 46, 53]⟩, .string ⟨#[45, 46, 53]⟩, .string ⟨#[49, 46]⟩, .string ⟨#[49, 101, 51]⟩, .string ⟨#[43, 46, 105, 110, 102]⟩, .string ⟨#[45, 46, 73, 78, 70]⟩, .string ⟨#[46, 110, 97, 110]⟩, .string ⟨#[126]⟩, .string ⟨#[110, 117, 108, 108]⟩, .string ⟨#[78, 117, 108, 108]⟩, .string ⟨#[116, 114, 117, 101]⟩, .string ⟨#[70, 65, 76, 83, 69]⟩, .string ⟨#[110, 111]⟩, .string ⟨#[45]⟩, .string ⟨#[63]⟩, .string ⟨#[58]⟩, .string ⟨#[45, 97]⟩, .string ⟨#[63, 98]⟩, .string ⟨#[58, 99]⟩, .string ⟨#[97, 58]⟩, .string ⟨#[97, 58, 32, 98]⟩, .string ⟨#[97, 32, 35, 98]⟩, .string ⟨#[97, 35, 98]⟩, .string ⟨#[35, 32, 99]⟩, .string ⟨#[97, 44, 32, 98]⟩, .string ⟨#[91, 97, 93]⟩, .string ⟨#[97, 93]⟩, .string ⟨#[123]⟩, .string ⟨#[45, 32, 97]⟩, .string ⟨#[45, 45, 45]⟩, .string ⟨#[45, 45, 45, 32, 97]⟩, .string ⟨#[46, 46, 46]⟩, .string ⟨#[46, 46, 46, 46]⟩, .string ⟨#[97, 9, 98]⟩, .string ⟨#[97, 10]⟩, .string ⟨#[97, 10, 98]⟩, .string ⟨#[10]⟩, .string ⟨#[32, 97]⟩, .string ⟨#[97, 32]⟩, .string ⟨#[9, 97]⟩, .string ⟨#[38, 97]⟩, .string ⟨#[42, 97]⟩, .string ⟨#[33, 97]⟩, .string ⟨#[124]⟩, .string ⟨#[62]⟩, .string ⟨#[39, 97]⟩, .string ⟨#[34, 97]⟩, .string ⟨#[37, 97]⟩, .string ⟨#[64, 97]⟩, .string ⟨#[96, 97]⟩, .string ⟨#[97, 39, 98]⟩, .string ⟨#[195, 169]⟩, .string ⟨#[0]⟩, .string ⟨#[194, 133]⟩, .string ⟨#[239, 187, 191]⟩, .string ⟨#[255]⟩, .string ⟨#[97, 10, 10]⟩, .string ⟨#[97, 10, 32, 98, 10]⟩, .string ⟨#[97, 10, 32, 10]⟩, .string ⟨#[97, 58, 98]⟩, .string ⟨#[58, 58]⟩, .string ⟨#[45, 58]⟩, .string ⟨#[97, 10, 45, 45, 45, 10]⟩, .string ⟨#[120, 10, 9, 121]⟩] 9)) := (Below.refl _ _).alloc (Nat.le_refl _) _
  go_enter Tryz.func22, Tryz.ntmps22
  go_wp2_with fail
  generalize w.alloc (.cells #[.string ⟨#[]⟩, .string ⟨#[49]⟩, .string ⟨#[45, 49]⟩, .string ⟨#[43, 55]⟩, .string ⟨#[48, 120, 49, 70]⟩, .string ⟨#[48, 111, 49, 55]⟩, .string ⟨#[49, 46, 53]⟩, .string ⟨#[45, 46, 53]⟩, .string ⟨#[49, 46]⟩, .string ⟨#[49, 101, 51]⟩, .string ⟨#[43, 46, 105, 110, 102]⟩, .string ⟨#[45, 46, 73, 78, 70]⟩, .string ⟨#[46, 110, 97, 110]⟩, .string ⟨#[126]⟩, .string ⟨#[110, 117, 108, 108]⟩, .string ⟨#[78, 117, 108, 108]⟩, .string ⟨#[116, 114, 117, 101]⟩, .string ⟨#[70, 65, 76, 83, 69]⟩, .string ⟨#[110, 111]⟩, .string ⟨#[45]⟩, .string ⟨#[63]⟩, .string ⟨#[58]⟩, .string ⟨#[45, 97]⟩, .string ⟨#[63, 98]⟩, .string ⟨#[58, 99]⟩, .string ⟨#[97, 58]⟩, .string ⟨#[97, 58, 32, 98]⟩, .string ⟨#[97, 32, 35, 98]⟩, .string ⟨#[97, 35, 98]⟩, .string ⟨#[35, 32, 99]⟩, .string ⟨#[97, 44, 32, 98]⟩, .string ⟨#[91, 97, 93]⟩, .string ⟨#[97, 93]⟩, .string ⟨#[123]⟩, .string ⟨#[45, 32, 97]⟩, .string ⟨#[45, 45, 45]⟩, .string ⟨#[45, 45, 45, 32, 97]⟩, .string ⟨#[46, 46, 46]⟩, .string ⟨#[46, 46, 46, 46]⟩, .string ⟨#[97, 9, 98]⟩, .string ⟨#[97, 10]⟩, .string ⟨#[97, 10, 98]⟩, .string ⟨#[10]⟩, .string ⟨#[32, 97]⟩, .string ⟨#[97, 32]⟩, .string ⟨#[9, 97]⟩, .string ⟨#[38, 97]⟩, .string ⟨#[42, 97]⟩, .string ⟨#[33, 97]⟩, .string ⟨#[124]⟩, .string ⟨#[62]⟩, .string ⟨#[39, 97]⟩, .string ⟨#[34, 97]⟩, .string ⟨#[37, 97]⟩, .string ⟨#[64, 97]⟩, .string ⟨#[96, 97]⟩, .string ⟨#[97, 39, 98]⟩, .string ⟨#[195, 169]⟩, .string ⟨#[0]⟩, .string ⟨#[194, 133]⟩, .string ⟨#[239, 187, 191]⟩, .string ⟨#[255]⟩, .string ⟨#[97, 10, 10]⟩, .string ⟨#[97, 10, 32, 98, 10]⟩, .string ⟨#[97, 10, 32, 10]⟩, .string ⟨#[97, 58, 98]⟩, .string ⟨#[58, 58]⟩, .string ⟨#[45, 58]⟩, .string ⟨#[97, 10, 45, 45, 45, 10]⟩, .string ⟨#[120, 10, 9, 121]⟩] 9) = W at *
  refine (hLw _).mono ?_
  rintro e w2 ⟨rfl, rfl⟩
  go_wp2_with fail
  go_ret
  exact ⟨rfl, hb⟩
end Go.Proofs.YtjfgcbikdibjeaaGreatDoor
