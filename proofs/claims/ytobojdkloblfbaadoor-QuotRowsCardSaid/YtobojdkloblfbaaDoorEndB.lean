/- What the ends of the statements share whose rows list fewer variables. -/
import Derived.Test.YtobojdkloblfbaaDoorEnd
namespace Go.Proofs.YtobojdkloblfbaaDoor
open Go.ChangeShapes Go.WideShapes Go.ChangeAt Go.RowKit Go.Proofs Go.Proofs.YtobojdkloblfbaaDoor Go.Proofs.YtobojdkloblfbaaDoor.U
open Go.WideMaps Go.WideElems

def lstB : List (String × DataW Unit) := Rows.blocTellsRow.laid
theorem env_ofB {W : World} (hL : laidMetH Tryd.prog lstB W) (hsh : W.ShapedOpen Tryd.prog) : Env W := by
  rw [MakeChecks.laidMetH_plain _ _ _ (by kernel_rfl)] at hL
  refine ⟨utf8Tabs_of_reads Tryd.lays260 u8x (Pinned.utf8First_eq ▸ Lib.laidMet.reads hL (by first | exact .head _ | exact .tail _ (.head _) | exact .tail _ (.tail _ (.head _)) | exact .tail _ (.tail _ (.tail _ (.head _))) | exact .tail _ (.tail _ (.tail _ (.tail _ (.head _)))))) ?_, hsh⟩
  have h := Lib.laidMet.reads (n := "unicode/utf8.acceptRanges") hL (by first | exact .head _ | exact .tail _ (.head _) | exact .tail _ (.tail _ (.head _)) | exact .tail _ (.tail _ (.tail _ (.head _))) | exact .tail _ (.tail _ (.tail _ (.tail _ (.head _)))))
  exact (show (Rows.laid_unicode_utf8_acceptRanges : DataW Unit) = Lib.acceptData by kernel_rfl) ▸ h
theorem start_shapedB (os : Os) (args : Array Value) : ((World.laidAll Tryd.prog os lstB).forCall (fun _ _ => 0) ⟨#[], args, []⟩).Shaped Tryd.prog :=
  World.shaped_of_ZipB (by kernel_rfl) (by kernel_rfl)
theorem start_laidB (os : Os) (args : Array Value) : laidMetH Tryd.prog lstB ((World.laidAll Tryd.prog os lstB).forCall (fun _ _ => 0) ⟨#[], args, []⟩).memory := by
  rw [MakeChecks.laidMetH_plain _ _ _ (by kernel_rfl)]
  exact laidMet_laidAll _ (by kernel_rfl) (by kernel_rfl)

end Go.Proofs.YtobojdkloblfbaaDoor
