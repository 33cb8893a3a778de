/- wrap.Do, and do, as fold uses it. -/
import Derived.Test.YtgiegkacilfofabDoorFoldB
import Derived.Test.YtgiegkacilfofabDoorDo
namespace Go.Proofs.YtgiegkacilfofabDoor
set_option linter.unusedVariables false
set_option linter.unusedSimpArgs false
open Go.RowKit

set_option maxRecDepth 100000 in
theorem do_any (op a b : Int) (h4 : 4 ≤ op) (h14 : op ≤ 14) (w : World) : Calls Tryd.prog 80 #[.int .i64 op, .int .i64 a, .int .i64 b] w fun e w' => e = .returned (.tuple #[.int .i64 (doV (op + 2) a b).1, .bool (doV (op + 2) a b).2]) ∧ w' = w := by
  have C := Lib.hid (doR_any (op + 2) a b (by omega) (by omega) w)
  generalize doV (op + 2) a b = r at *
  have e1 : wrap64 (wrap64 (op - 4) + 6) = op + 2 := by unfold wrap64; omega
  have e2 : op - 4 + 6 = op + 2 := by omega
  go_enter Tryd.func80, Tryd.ntmps80
  go_wp2_with fail
  try rw [e2]
  refine C.out.mono ?_; rintro e w1 ⟨rfl, rfl⟩
  go_wp2_with fail
  go_ret2
  exact ⟨rfl, rfl⟩
end Go.Proofs.YtgiegkacilfofabDoor
