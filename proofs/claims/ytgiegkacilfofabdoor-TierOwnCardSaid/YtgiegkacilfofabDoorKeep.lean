/- What stays; rows of instructions read; whole numbers of 64 bits. -/
import Derived.Test.YtgiegkacilfofabDoorFoldIns
namespace Go.Proofs.YtgiegkacilfofabDoor
set_option linter.unusedVariables false
set_option linter.unusedSimpArgs false
open Go.RowKit

theorem Below.chg {w w' : World} (h : Below w.heap.size w w') : Chg (fun _ => False) w w' := Chg.of_below h _
theorem bel_trans {a b c : World} (h1 : Below a.heap.size a b) (h2 : Below b.heap.size b c) : Below a.heap.size a c := h1.trans (h2.mono h1.size)
theorem heap_new' {w : World} {o : Obj} {n : Nat} (h : w.heap.size = n) : (w.alloc o).heap[n]? = some o := by
  subst h
  exact heap_new _ _
def InsR.agg (x : InsR) : Value := .agg #[.int .i64 x.op, .int .i64 x.a, .int .i64 x.n]

/-- a row of instructions in memory -/
def InsAt (w : World) (v : Value) (l : List InsR) : Prop := ∃ b off cap, v = .slice (some ⟨b, off, none⟩) l.length cap ∧ b < w.heap.size ∧ l.length ≤ cap ∧ ∀ (j : Nat) u, (insCells l)[j]? = some u → w.cell? ⟨b, off + j, none⟩ = some u
theorem Src.get {w : World} {v : Value} {l : List InsR} (h : Src w v l.length (insCells l)) (j : Nat) (hj : j < l.length) : ∃ b off cap, v = .slice (some ⟨b, off, none⟩) l.length cap ∧ b < w.heap.size ∧ l.length ≤ cap ∧ w.cell? ⟨b, off + j * 3, none⟩ = some (.int .i64 l[j].op) ∧ w.cell? ⟨b, off + j * 3 + 1, none⟩ = some (.int .i64 l[j].a) ∧ w.cell? ⟨b, off + j * 3 + 2, none⟩ = some (.int .i64 l[j].n) := by
  rcases h with ⟨_, h0, _⟩ | ⟨b, off, cap, e, hb, h1, h2, h3⟩
  · omega
  · obtain ⟨c0, c1, c2⟩ := insCells_get l j hj
    exact ⟨b, off, cap, e, hb, h1, h3 _ _ c0, by have := h3 _ _ c1; rwa [show off + (j * 3 + 1) = off + j * 3 + 1 by omega] at this, by have := h3 _ _ c2; rwa [show off + (j * 3 + 2) = off + j * 3 + 2 by omega] at this⟩
def In64 (z : Int) : Prop := -9223372036854775808 ≤ z ∧ z ≤ 9223372036854775807
structure WfI (x : InsR) : Prop where
  a : In64 x.a
structure Full (x : InsR) : Prop where
  op : In64 x.op
  a : In64 x.a
  n : In64 x.n
theorem Full.wf {x : InsR} (h : Full x) : WfI x := ⟨h.a⟩
theorem in64_of {n : Int} (h : (Lit.int .i64 n).wf = true) : In64 n := by
  have h2 : IntKind.i64.min ≤ n ∧ n ≤ IntKind.i64.max := by simpa [Lit.wf] using h
  exact ⟨h2.1, h2.2⟩

theorem insCells_append (a b : List InsR) : insCells (a ++ b) = insCells a ++ insCells b := by simp [insCells]
theorem insCells_drop (l : List InsR) (i : Nat) : insCells (l.drop i) = (insCells l).drop (i * 3) := by
  have h : insCells l = insCells (l.take i) ++ insCells (l.drop i) := by rw [← insCells_append, List.take_append_drop]
  by_cases hi : i ≤ l.length
  · have hlt : (insCells (l.take i)).length = i * 3 := by rw [insCells_length, List.length_take]; omega
    rw [h, ← hlt, List.drop_left]
  · rw [List.drop_of_length_le (by omega), List.drop_of_length_le (by rw [insCells_length]; omega)]
    rfl
theorem insCells_snoc (l : List InsR) (x : InsR) : insCells (l ++ [x]) = insCells l ++ x.cells := by simp [insCells]
theorem ownsRow_set {w : World} {base : Nat} {e : TypeId} {size n g cap : Nat} {xs : List Value} (h : w.ownsRow base e size (.slice (some ⟨g, 0, none⟩) n cap) n xs) (k : Nat) (hk : k < n * size) (u : Value) :
    (w.setCell ⟨g, k, none⟩ u).ownsRow base e size (.slice (some ⟨g, 0, none⟩) n cap) n (xs.set k u) := by
  obtain ⟨hl, h0 | ⟨g', cap', cur, e1, hb, hh, h1, h2, h3, h4⟩⟩ := h
  · cases h0.1
  · injection e1 with e1 e2 e3
    injection e1 with e1
    injection e1 with e1
    subst e1 e3
    refine ⟨by rw [List.length_set]; exact hl, .inr ⟨g, cap, _, rfl, hb, heap_set hh k u, h1, h2, by simpa using h3, ?_⟩⟩
    rw [← h4, Array.toList_setIfInBounds, List.take_set]
theorem Src.keepB {w w' : World} {n : Nat} {v : Value} {cs : List Value} (h : Src w v n cs) (hb : Below w.heap.size w w') : Src w' v n cs := h.kept (Below.chg hb) (.inr fun _ _ x => x)

end Go.Proofs.YtgiegkacilfofabDoor
