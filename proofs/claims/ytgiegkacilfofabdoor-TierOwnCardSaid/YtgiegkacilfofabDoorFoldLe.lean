/- What is folded is no longer. (Out of XSpecOwn.) -/
import Derived.Test.YtgiegkacilfofabDoorSpecC
namespace Go.Proofs.YtgiegkacilfofabDoor
set_option linter.unusedVariables false
set_option linter.unusedSimpArgs false
open Go.RowKit

theorem foldv_le : ∀ (n : Nat) (l : List InsR), l.length = n → (foldv l).length ≤ l.length := by
  intro n
  induction n using Nat.strongRecOn with
  | _ n ih =>
    intro l hl
    cases e : firstRule l with
    | none => rw [foldv_none e]; exact Nat.le_refl _
    | some l' =>
      rw [foldv_some e]
      have := firstRule_less e
      have := ih l'.length (by omega) l' rfl
      omega
theorem forv_le (l : List InsR) (ps k n : Int) : (forv l ps k n).length ≤ l.length := by
  unfold forv
  split
  · have := foldv_le _ (l.map (putI k n)) rfl
    rw [List.length_map] at this
    exact this
  · exact foldv_le _ l rfl
end Go.Proofs.YtgiegkacilfofabDoor
