/- The laid list where it holds the table of instructions alone. -/
import Derived.Test.YtdpimkbdieafgaaDoorLaid
namespace Go.Proofs.YtdpimkbdieafgaaDoor
set_option linter.unusedVariables false
set_option linter.unusedSimpArgs false
open Go.ChangeShapes Go.WideShapes Go.ChangeAt Go.RowKit

def laidL1 : List (String × DataW Unit) := [("evenhand/code.sorts", Rows.laid_evenhand_code_sorts)]
theorem door_met1 (os : Os) (args : Array Value) : laidMetH Tryd.prog laidL1 ((World.doorLaid Tryd.prog 55 os).forCall (fun _ _ => 0) ⟨#[], args, []⟩).memory :=
  laidMetH_of_parts3 (fuel := 8) (laidMet_of_run' 8 (by kernel_rfl) (by kernel_rfl)) (by kernel_rfl) (by kernel_rfl)
theorem of_laid1 {W : World} (h : laidMetH Tryd.prog laidL1 W) : SortsIs W := by
  rw [MakeChecks.laidMetH_plain _ _ _ (by kernel_rfl)] at h
  obtain ⟨ps, ⟨g3, t3, cs3, f3, p3, q3, hg3, ht3, hv3, hd3, _, _⟩, _⟩ := h
  obtain rfl := Option.some.inj (gSorts.symm.trans hg3)
  obtain rfl := Option.some.inj (tSorts.symm.trans ht3)
  exact sorts_of_trod hd3 rfl (fun off => World.var?_cell gSorts hv3 off)
end Go.Proofs.YtdpimkbdieafgaaDoor
