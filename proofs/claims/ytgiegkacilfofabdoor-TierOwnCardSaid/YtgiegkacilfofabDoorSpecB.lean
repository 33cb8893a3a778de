/- spec: Plain, Fixed. -/
import Derived.Test.YtgiegkacilfofabDoorSpecA
import Derived.Test.YtgiegkacilfofabDoorBodyRd
namespace Go.Proofs.YtgiegkacilfofabDoor
set_option linter.unusedVariables false
set_option linter.unusedSimpArgs false
open Go.RowKit

/-- a function of code, as a value -/
def fnCells (nm : ByteArray) (ps vs ar : Int) (V : Value) : List Value := [.string nm, .int .i64 ps, .int .i64 vs, .int .i64 ar, V]

set_option maxHeartbeats 1000000 in
set_option maxRecDepth 100000 in
theorem plain_any {w : World} {V : Value} {l : List InsR} (nm : ByteArray) (ps vs ar : Int) (hs : Src w V l.length (insCells l)) (hl : l.length ≤ 1048576) (hwl : ∀ x ∈ l, WfI x) :
    Calls Tryd.prog 46 #[.agg #[.string nm, .int .i64 ps, .int .i64 vs, .int .i64 ar, V]] w fun e w' => ∃ v', e = .returned v' ∧ w'.ownsRow 0 44 3 v' (foldv l).length (insCells (foldv l)) ∧ (∀ k, v'.ownBlock = some k → w.heap.size ≤ k) ∧ Below w.heap.size w w' := by
  obtain ⟨_, A, c, rfl⟩ := hs.bound
  obtain ⟨wb, hwb⟩ : ∃ wb, wb = w.alloc (.cells #[.string nm, .int .i64 ps, .int .i64 vs, .int .i64 ar, .slice A l.length c] 39) := ⟨_, rfl⟩
  have hb : Below w.heap.size w wb := by rw [hwb]; exact (Below.refl _ _).alloc (Nat.le_refl _) _
  have C := Lib.hid (fold_any (hs.keepB hb) hl hwl)
  have HB := Lib.hid hb
  have HWB := Lib.hid hwb
  clear hs hl hwl hwb hb
  obtain ⟨n, hn⟩ : ∃ n, n = l.length := ⟨_, rfl⟩
  rw [← hn] at C HWB ⊢
  clear hn
  go_enter Tryd.func46, Tryd.ntmps46
  go_wp2_with fail
  rw [← HWB.out]
  refine C.out.mono ?_; rintro e w1 ⟨v', rfl, ho, hn, hb1⟩
  have HO := Lib.hid (And.intro ho (And.intro (fun k hk => Nat.le_trans HB.out.size (hn k hk)) (bel_trans HB.out hb1)))
  clear ho hn hb1
  go_wp2_with fail
  go_ret
  exact ⟨_, rfl, HO.out.1, HO.out.2.1, HO.out.2.2⟩

def fixedv (ps k : Int) (l : List InsR) : Bool := decide (0 ≤ k ∧ k < ps) && !(l.any (setsv k))
set_option maxHeartbeats 1000000 in
set_option maxRecDepth 100000 in
theorem fixed_any {w : World} {V : Value} {l : List InsR} (nm : ByteArray) (ps vs ar k : Int) (hs : Src w V l.length (insCells l)) (hl : l.length ≤ 1048576) :
    Calls Tryd.prog 54 #[.agg #[.string nm, .int .i64 ps, .int .i64 vs, .int .i64 ar, V], .int .i64 k] w fun e w' => e = .returned (.bool (fixedv ps k l)) ∧ Below w.heap.size w w' := by
  obtain ⟨_, A, c, rfl⟩ := hs.bound
  obtain ⟨wb, hwb⟩ : ∃ wb, wb = (w.alloc (.cells #[.string nm, .int .i64 ps, .int .i64 vs, .int .i64 ar, .slice A l.length c] 39)).alloc (.cells #[.int .i64 k] 3) := ⟨_, rfl⟩
  have hb0 : Below w.heap.size w (w.alloc (.cells #[.string nm, .int .i64 ps, .int .i64 vs, .int .i64 ar, .slice A l.length c] 39)) := (Below.refl _ _).alloc (Nat.le_refl _) _
  have hb : Below w.heap.size w wb := by rw [hwb]; exact hb0.alloc hb0.size _
  have hk : wb.cell? ⟨w.heap.size + 1, 0, none⟩ = some (.int .i64 k) := by
    rw [hwb]
    rw [cell_of_block (heap_new' (w := w.alloc (.cells #[.string nm, .int .i64 ps, .int .i64 vs, .int .i64 ar, .slice A l.length c] 39)) (o := .cells #[.int .i64 k] 3) (n := w.heap.size + 1) (by simp)) 0]
    rfl
  have C := Lib.hid (scontains_any k (w.heap.size + 1) (hs.keepB hb) (by omega) hk)
  obtain ⟨r, hr⟩ : ∃ r, r = l.any (setsv k) := ⟨_, rfl⟩
  have HFX : Hid (fixedv ps k l = (decide (0 ≤ k ∧ k < ps) && !r)) := Lib.hid (by rw [hr]; rfl)
  rw [← hr] at C
  have HB := Lib.hid hb
  have HWB := Lib.hid hwb
  clear hs hl hwb hb hb0 hr hk
  obtain ⟨n, hn⟩ : ∃ n, n = l.length := ⟨_, rfl⟩
  rw [← hn] at C HWB ⊢
  clear hn
  rw [HFX.out]
  by_cases h0 : 0 ≤ k
  · by_cases h1 : k < ps
    · rw [decide_eq_true ⟨h0, h1⟩]
      go_enter Tryd.func54, Tryd.ntmps54
      go_wp2_with fail
      rw [← HWB.out]
      refine C.out.mono ?_; rintro e w1 ⟨rfl, hb1⟩
      have HB1 := Lib.hid (bel_trans HB.out hb1)
      clear hb1
      go_wp2_with fail
      go_ret
      exact ⟨by simp, HB1.out⟩
    · rw [decide_eq_false (fun h => h1 h.2)]
      have h2 : ps ≤ k := by omega
      have h3 : decide (k < ps) = false := decide_eq_false h1
      go_enter Tryd.func54, Tryd.ntmps54
      go_wp2_with fail
      go_ret
      rw [← HWB.out]
      exact ⟨by simp, HB.out⟩
  · rw [decide_eq_false (fun h => h0 h.1)]
    have h2 : k < 0 := by omega
    have h3 : decide (0 ≤ k) = false := decide_eq_false h0
    go_enter Tryd.func54, Tryd.ntmps54
    go_wp2_with fail
    go_ret
    rw [← HWB.out]
    exact ⟨by simp, HB.out⟩
end Go.Proofs.YtgiegkacilfofabDoor
