/- The laid list of four tables gives what code.Text needs. -/
import Derived.Test.YtgiegkacilfofabDoorLaid
import Derived.Test.YtgiegkacilfofabDoorTextG
import Derived.Lib.LaidTab
namespace Go.Proofs.YtgiegkacilfofabDoor
set_option linter.unusedVariables false
set_option linter.unusedSimpArgs false
open Go.ChangeShapes Go.WideShapes Go.ChangeAt Go.RowKit

theorem gPow : Tryd.prog.globalNamed "internal/strconv.uint64pow10" = some 1 := by kernel_rfl
theorem of_laidT {W : World} (hL : laidMetH Tryd.prog laidL W) : TxtIs W := by
  refine ⟨of_laid hL, ?_⟩
  rw [MakeChecks.laidMetH_plain _ _ _ (by kernel_rfl)] at hL
  obtain ⟨ps, ⟨_, _, _, _, _, _, _, _, _, _, ⟨_, _, _, _, _, _, _, _, _, _, ⟨g2, t2, cs2, f2, p2, q2, hg2, ht2, hv2, hd2, _⟩, _⟩, _⟩, _⟩ := hL
  obtain rfl := Option.some.inj (gPow.symm.trans hg2)
  obtain rfl := Option.some.inj ((show (Tryd.prog.globals[1]?).map (·.type) = some 134 by kernel_rfl).symm.trans ht2)
  unfold Lib.TabIs
  rw [hv2, ← Lib.cells_of_tab (zs := Lib.pow10Tab) Tryd.underlying134 Tryd.underlying122 (by kernel_rfl) (by kernel_rfl) hd2]
end Go.Proofs.YtgiegkacilfofabDoor
