/- Plain facts on lists of arrays. -/
import Derived.Test.YtjoibhaohmifcaaHeapShown
namespace Go.Proofs.Ytjoibhaohmifcaa
set_option linter.unusedVariables false
set_option linter.unusedSimpArgs false
open Go.RowKit Go.Deep

theorem cellv_end (xss : List (List Int)) (ys : List Int) (k : Nat) : cellv (xss ++ [ys]) xss.length k = ys[k]? := by
  unfold cellv
  rw [if_pos (by omega)]
  simp
theorem setv_end (xss : List (List Int)) (ys : List Int) (k : Nat) (v : Int) : setv (xss ++ [ys]) xss.length k v = xss ++ [ys.set k v] := by
  unfold setv
  rw [if_pos (by omega)]
  simp only [Int.toNat_natCast]
  apply List.ext_getElem?
  intro i
  rw [List.getElem?_modify]
  by_cases e : xss.length = i
  · subst e
    simp
  · simp only [e, if_false]
    rcases Nat.lt_or_ge i xss.length with h | h
    · simp [List.getElem?_append_left h]
    · rw [List.getElem?_eq_none (by simp; omega), List.getElem?_eq_none (by simp; omega)]
      rfl
theorem lenv_end (xss : List (List Int)) (ys : List Int) : lenv (xss ++ [ys]) xss.length = ys.length := by
  unfold lenv
  rw [if_pos (by omega)]
  simp
theorem total_end (xss : List (List Int)) (ys : List Int) : total (xss ++ [ys]) = total xss + ys.length := by
  rw [total_append]
  simp [total]
/-- filled with v up to k -/
def filled (v : Int) (n k : Nat) : List Int := List.replicate k v ++ List.replicate (n - k) 0
theorem filled_zero (v : Int) (n : Nat) : filled v n 0 = List.replicate n 0 := by simp [filled]
theorem filled_length (v : Int) (n k : Nat) (h : k ≤ n) : (filled v n k).length = n := by simp [filled]; omega
theorem filled_get (v : Int) (n k : Nat) (h : k < n) : (filled v n k)[k]? = some 0 := by
  unfold filled
  rw [List.getElem?_append_right (by simp)]
  simp only [List.length_replicate, Nat.sub_self]
  rw [List.getElem?_replicate, if_pos (by omega)]
theorem filled_set (v : Int) (n k : Nat) (h : k < n) : (filled v n k).set k v = filled v n (k + 1) := by
  unfold filled
  rw [List.set_append]
  simp only [List.length_replicate, Nat.lt_irrefl, if_false, Nat.sub_self]
  obtain ⟨m, hm⟩ : ∃ m, n - k = m + 1 := ⟨n - k - 1, by omega⟩
  rw [hm, show n - (k + 1) = m by omega, List.replicate_succ, List.set_cons_zero, List.replicate_succ', List.append_assoc]
  rfl
end Go.Proofs.Ytjoibhaohmifcaa
