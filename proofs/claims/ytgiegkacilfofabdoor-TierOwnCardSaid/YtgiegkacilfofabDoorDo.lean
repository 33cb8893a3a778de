/- wrap.Do (out of gen_folddo.py). -/
import Derived.Test.YtgiegkacilfofabDoorKeep
namespace Go.Proofs.YtgiegkacilfofabDoor
set_option linter.unusedVariables false
set_option linter.unusedSimpArgs false
open Go.RowKit

/-- what an operator tells (A1) -/
def doV (op a b : Int) : Int × Bool :=
  if op = 6 then (wrap64 (-a), true) else if op = 7 then (if a = 0 then 1 else 0, true) else if op = 8 then (wrap64 (a + b), true) else if op = 9 then (wrap64 (a - b), true) else if op = 10 then (wrap64 (a * b), true)
  else if op = 11 then (if b = 0 then (0, false) else (wrap64 (a.tdiv b), true)) else if op = 12 then (if b = 0 then (0, false) else (a.tmod b, true)) else if op = 13 then (if a < b then 1 else 0, true) else if op = 14 then (if a = b then 1 else 0, true)
  else if op = 15 then (bits .and .i64 a b, true) else if op = 16 then (bits .or .i64 a b, true) else (0, false)

set_option maxHeartbeats 2000000 in
set_option maxRecDepth 100000 in
theorem do6_any (a b : Int) (w : World) : Calls Tryd.prog 86 #[.int .i64 6, .int .i64 a, .int .i64 b] w fun e w' => e = .returned (.tuple #[.int .i64 (doV 6 a b).1, .bool (doV 6 a b).2]) ∧ w' = w := by
  go_enter Tryd.func86, Tryd.ntmps86
  go_wp2
  go_ret2
  exact ⟨rfl, rfl⟩
set_option maxHeartbeats 2000000 in
set_option maxRecDepth 100000 in
theorem do8_any (a b : Int) (w : World) : Calls Tryd.prog 86 #[.int .i64 8, .int .i64 a, .int .i64 b] w fun e w' => e = .returned (.tuple #[.int .i64 (doV 8 a b).1, .bool (doV 8 a b).2]) ∧ w' = w := by
  go_enter Tryd.func86, Tryd.ntmps86
  go_wp2
  go_ret2
  exact ⟨rfl, rfl⟩
set_option maxHeartbeats 2000000 in
set_option maxRecDepth 100000 in
theorem do9_any (a b : Int) (w : World) : Calls Tryd.prog 86 #[.int .i64 9, .int .i64 a, .int .i64 b] w fun e w' => e = .returned (.tuple #[.int .i64 (doV 9 a b).1, .bool (doV 9 a b).2]) ∧ w' = w := by
  go_enter Tryd.func86, Tryd.ntmps86
  go_wp2
  go_ret2
  exact ⟨rfl, rfl⟩
set_option maxHeartbeats 2000000 in
set_option maxRecDepth 100000 in
theorem do10_any (a b : Int) (w : World) : Calls Tryd.prog 86 #[.int .i64 10, .int .i64 a, .int .i64 b] w fun e w' => e = .returned (.tuple #[.int .i64 (doV 10 a b).1, .bool (doV 10 a b).2]) ∧ w' = w := by
  go_enter Tryd.func86, Tryd.ntmps86
  go_wp2
  go_ret2
  exact ⟨rfl, rfl⟩
set_option maxHeartbeats 2000000 in
set_option maxRecDepth 100000 in
theorem do15_any (a b : Int) (w : World) : Calls Tryd.prog 86 #[.int .i64 15, .int .i64 a, .int .i64 b] w fun e w' => e = .returned (.tuple #[.int .i64 (doV 15 a b).1, .bool (doV 15 a b).2]) ∧ w' = w := by
  go_enter Tryd.func86, Tryd.ntmps86
  go_wp2
  go_ret2
  exact ⟨rfl, rfl⟩
set_option maxHeartbeats 2000000 in
set_option maxRecDepth 100000 in
theorem do16_any (a b : Int) (w : World) : Calls Tryd.prog 86 #[.int .i64 16, .int .i64 a, .int .i64 b] w fun e w' => e = .returned (.tuple #[.int .i64 (doV 16 a b).1, .bool (doV 16 a b).2]) ∧ w' = w := by
  go_enter Tryd.func86, Tryd.ntmps86
  go_wp2
  go_ret2
  exact ⟨rfl, rfl⟩
set_option maxHeartbeats 2000000 in
set_option maxRecDepth 100000 in
theorem do11_any (a b : Int) (w : World) : Calls Tryd.prog 86 #[.int .i64 11, .int .i64 a, .int .i64 b] w fun e w' => e = .returned (.tuple #[.int .i64 (doV 11 a b).1, .bool (doV 11 a b).2]) ∧ w' = w := by
  obtain ⟨r, hr⟩ : ∃ r, doV 11 a b = r := ⟨_, rfl⟩
  rw [hr]
  by_cases h : b = 0
  · obtain rfl : r = (0, false) := by rw [← hr]; exact if_pos h
    go_enter Tryd.func86, Tryd.ntmps86
    go_wp2
    go_ret2
    exact ⟨rfl, rfl⟩
  · obtain rfl : r = (wrap64 (a.tdiv b), true) := by rw [← hr]; exact if_neg h
    go_enter Tryd.func86, Tryd.ntmps86
    go_wp2
    go_ret2
    exact ⟨rfl, rfl⟩
set_option maxHeartbeats 2000000 in
set_option maxRecDepth 100000 in
theorem do12_any (a b : Int) (w : World) : Calls Tryd.prog 86 #[.int .i64 12, .int .i64 a, .int .i64 b] w fun e w' => e = .returned (.tuple #[.int .i64 (doV 12 a b).1, .bool (doV 12 a b).2]) ∧ w' = w := by
  obtain ⟨r, hr⟩ : ∃ r, doV 12 a b = r := ⟨_, rfl⟩
  rw [hr]
  by_cases h : b = 0
  · obtain rfl : r = (0, false) := by rw [← hr]; exact if_pos h
    go_enter Tryd.func86, Tryd.ntmps86
    go_wp2
    go_ret2
    exact ⟨rfl, rfl⟩
  · obtain rfl : r = (a.tmod b, true) := by rw [← hr]; exact if_neg h
    go_enter Tryd.func86, Tryd.ntmps86
    go_wp2
    go_ret2
    exact ⟨rfl, rfl⟩
set_option maxHeartbeats 2000000 in
set_option maxRecDepth 100000 in
theorem do7_any (a b : Int) (w : World) : Calls Tryd.prog 86 #[.int .i64 7, .int .i64 a, .int .i64 b] w fun e w' => e = .returned (.tuple #[.int .i64 (doV 7 a b).1, .bool (doV 7 a b).2]) ∧ w' = w := by
  have hr : doV 7 a b = (if a = 0 then 1 else 0, true) := rfl
  rw [hr]
  by_cases h : a = 0
  · rw [if_pos h]
    subst h
    go_enter Tryd.func86, Tryd.ntmps86
    go_wp2
    go_ret2
    exact ⟨rfl, rfl⟩
  · rw [if_neg h]
    go_enter Tryd.func86, Tryd.ntmps86
    go_wp2
    go_ret2
    exact ⟨rfl, rfl⟩
set_option maxHeartbeats 2000000 in
set_option maxRecDepth 100000 in
theorem do13_any (a b : Int) (w : World) : Calls Tryd.prog 86 #[.int .i64 13, .int .i64 a, .int .i64 b] w fun e w' => e = .returned (.tuple #[.int .i64 (doV 13 a b).1, .bool (doV 13 a b).2]) ∧ w' = w := by
  have hr : doV 13 a b = (if a < b then 1 else 0, true) := rfl
  rw [hr]
  by_cases h : a < b
  · rw [if_pos h]
    go_enter Tryd.func86, Tryd.ntmps86
    go_wp2
    go_ret2
    exact ⟨rfl, rfl⟩
  · rw [if_neg h]
    go_enter Tryd.func86, Tryd.ntmps86
    go_wp2
    go_ret2
    exact ⟨rfl, rfl⟩
set_option maxHeartbeats 2000000 in
set_option maxRecDepth 100000 in
theorem do14_any (a b : Int) (w : World) : Calls Tryd.prog 86 #[.int .i64 14, .int .i64 a, .int .i64 b] w fun e w' => e = .returned (.tuple #[.int .i64 (doV 14 a b).1, .bool (doV 14 a b).2]) ∧ w' = w := by
  have hr : doV 14 a b = (if a = b then 1 else 0, true) := rfl
  rw [hr]
  by_cases h : a = b
  · rw [if_pos h]
    subst h
    go_enter Tryd.func86, Tryd.ntmps86
    go_wp2
    go_ret2
    exact ⟨rfl, rfl⟩
  · rw [if_neg h]
    go_enter Tryd.func86, Tryd.ntmps86
    go_wp2
    go_ret2
    exact ⟨rfl, rfl⟩
theorem doR_any (op a b : Int) (h6 : 6 ≤ op) (h16 : op ≤ 16) (w : World) : Calls Tryd.prog 86 #[.int .i64 op, .int .i64 a, .int .i64 b] w fun e w' => e = .returned (.tuple #[.int .i64 (doV op a b).1, .bool (doV op a b).2]) ∧ w' = w := by
  have h : op = 6 ∨ op = 7 ∨ op = 8 ∨ op = 9 ∨ op = 10 ∨ op = 11 ∨ op = 12 ∨ op = 13 ∨ op = 14 ∨ op = 15 ∨ op = 16 := by omega
  rcases h with rfl | rfl | rfl | rfl | rfl | rfl | rfl | rfl | rfl | rfl | rfl
  · exact do6_any a b w
  · exact do7_any a b w
  · exact do8_any a b w
  · exact do9_any a b w
  · exact do10_any a b w
  · exact do11_any a b w
  · exact do12_any a b w
  · exact do13_any a b w
  · exact do14_any a b w
  · exact do15_any a b w
  · exact do16_any a b w
end Go.Proofs.YtgiegkacilfofabDoor
