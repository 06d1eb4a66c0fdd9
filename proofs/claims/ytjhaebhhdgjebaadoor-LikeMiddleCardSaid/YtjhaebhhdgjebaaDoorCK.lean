/-
  PROVED: where the listed variables read as the rows list them, the library's tables lie as they are laid (tabs_of); a world in which they do (laid_met). Conditions: none.
-/
import Derived.Test.YtjhaebhhdgjebaaDoorRL
import Derived.Test.YtjhaebhhdgjebaaDoorCards
import Derived.Test.YtjhaebhhdgjebaaDoorTie
import Derived.Lib.LaidU8
import Derived.LaidMore
import Derived.Lay
namespace Go.Proofs.YtjhaebhhdgjebaaDoor
open Go.RowKit Like
theorem accept_is : (Rows.laid_unicode_utf8_acceptRanges : DataW Unit) = Lib.acceptData := by kernel_rfl
theorem first_is : Rows.laid_unicode_utf8_first = Lib.firstData := by kernel_rfl
def laidL : List (String × DataW Unit) := [("unicode/utf8.acceptRanges", Rows.laid_unicode_utf8_acceptRanges), ("unicode/utf8.first", Rows.laid_unicode_utf8_first)]
theorem tabs_of {W : World} (h : laidMetH Tryd.prog laidL W) : Tabs W := by
  rw [MakeChecks.laidMetH_plain _ _ _ (by kernel_rfl)] at h
  unfold laidL at h
  rw [accept_is, first_is] at h
  exact utf8Tabs_of_reads (ρ := Tryd.lays260_ren) Tryd.lays260 ⟨by kernel_rfl, by kernel_rfl, by kernel_rfl, by kernel_rfl, by kernel_rfl, by kernel_rfl, by kernel_rfl⟩ (Lib.laidMet.reads h (.tail _ (.head _))) (Lib.laidMet.reads h (.head _))
noncomputable def laidWorld (os : Os) : World := World.laidAll Tryd.prog os laidL
theorem laid_met (os : Os) (args : Array Value) : laidMet Tryd.prog laidL ((laidWorld os).forCall (fun _ _ => 0) ⟨#[], args, []⟩).memory :=
  laidMet_laidAll _ (by kernel_rfl) (by kernel_rfl)
theorem laid_os (os : Os) : (laidWorld os).os = os := World.laidAll_os _ _ _
end Go.Proofs.YtjhaebhhdgjebaaDoor
