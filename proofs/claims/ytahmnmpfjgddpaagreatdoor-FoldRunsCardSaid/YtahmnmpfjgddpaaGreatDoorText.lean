/- code.Text: the table of instructions, the lines, the text (numbers below 100). -/
import Derived.Test.YtahmnmpfjgddpaaGreatDoorFoldRun
import Derived.Test.YtahmnmpfjgddpaaGreatDoorSorts
import Derived.Test.YtahmnmpfjgddpaaGreatDoorShelf
namespace Go.Proofs.YtahmnmpfjgddpaaGreatDoor
set_option linter.unusedVariables false
set_option linter.unusedSimpArgs false
open Go.RowKit

theorem sort_nm (nm : ByteArray) (tk lv mo ha : Int) (w : World) : (Instr.field 111 (.agg #[.string nm, .int .i64 tk, .int .i64 lv, .int .i64 mo, .int .i64 ha]) 0).run Tryz.prog w = .ok (.string nm) w := by kernel_rfl
theorem sort_has (nm : ByteArray) (tk lv mo ha : Int) (w : World) : (Instr.field 111 (.agg #[.string nm, .int .i64 tk, .int .i64 lv, .int .i64 mo, .int .i64 ha]) 4).run Tryz.prog w = .ok (.int .i64 ha) w := by kernel_rfl
set_option maxRecDepth 100000 in
theorem name_any {w : World} (h : SortsIs w) (op : Nat) (s : SortR) (h1 : 1 ≤ op) (hs : sorts[op]? = some s) : Calls Tryz.prog 49 #[.int .i64 op] w fun e w' => e = .returned (.string s.nm) ∧ Below w.heap.size w w' := by
  have C := Lib.hid (of_any h op s h1 hs)
  obtain ⟨nm, tk, lv, mo, ha⟩ := s
  simp only at C
  clear h hs
  go_enter Tryz.func49, Tryz.ntmps49
  go_wp2_with fail
  refine C.out.mono ?_; rintro e w1 ⟨rfl, hb⟩
  have HB := Lib.hid hb
  clear hb
  have hf := sort_nm nm tk lv mo ha w1
  go_wp2_with fail
  go_ret
  exact ⟨rfl, HB.out⟩
end Go.Proofs.YtahmnmpfjgddpaaGreatDoor
