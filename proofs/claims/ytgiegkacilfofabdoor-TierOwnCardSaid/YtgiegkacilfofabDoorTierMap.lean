/- The guards: a map from numbers to guards, told as a function. -/
import Derived.Test.YtgiegkacilfofabDoorRow
import Derived.Maps.OwnSet
namespace Go.Proofs.YtgiegkacilfofabDoor
set_option linter.unusedVariables false
set_option linter.unusedSimpArgs false
open Go.RowKit Go.Maps

/-- an element is told by itself -/
def selfG (v : Value) : Option (DataW Value × List MemPlace) := some (.held v, [])
/-- block b is the map M (of at most n entries) -/
def GMapI (w : World) (b n : Nat) (M : Int → Option Value) : Prop :=
  ∃ D : DataW Value, w.ownsMap Tryd.prog 3 selfG b n D ∧ ∀ k, (Lit.int .i64 k).wf = true → Maps.has D (.int .i64 k) = (M k).isSome ∧ D.atKey (.int .i64 k) (.held (.agg #[.int .i64 0, .int .i64 0])) = .held ((M k).getD (.agg #[.int .i64 0, .int .i64 0]))

theorem glawK : Keyed Tryd.prog 3 := int_keyed Tryd.underlying3
theorem gisKey (k : Int) : WideAt.IsKeyLit (.int .i64 k) := by first | exact trivial | constructor | simp [WideAt.IsKeyLit]
theorem GMapI.made (w : World) : GMapI (w.alloc (.map #[] 0)) w.heap.size 0 (fun _ => none) := ⟨.map [], World.ownsMap_made _ _ _ _, fun k _ => ⟨rfl, rfl⟩⟩
theorem GMapI.lt {w : World} {b n : Nat} {M : Int → Option Value} (h : GMapI w b n M) : b < w.heap.size := by obtain ⟨D, h, _⟩ := h; exact h.lt
theorem GMapI.kept {w w' : World} {T : Nat → Prop} {b n : Nat} {M : Int → Option Value} (h : GMapI w b n M) (hc : Chg T w w') (hn : ¬ T b) : GMapI w' b n M := by
  obtain ⟨D, ⟨es, clock, hb, r⟩, hM⟩ := h
  exact ⟨D, ⟨es, clock, hc.heap hb hn, r⟩, hM⟩
theorem GMapI.mono {w : World} {b n n' : Nat} {M : Int → Option Value} (h : GMapI w b n M) (hn : n ≤ n') : GMapI w b n' M := by
  obtain ⟨D, h, hM⟩ := h
  exact ⟨D, h.mono hn, hM⟩
theorem zeroG (w : World) : (zeroValue 70).run Tryd.prog w = .ok (.agg #[.int .i64 0, .int .i64 0]) w := by kernel_rfl
set_option maxRecDepth 100000 in
theorem GMapI.look {w : World} {b n : Nat} {M : Int → Option Value} (h : GMapI w b n M) (k : Int) (hk : (Lit.int .i64 k).wf = true) :
    (Instr.lookup 52 (.map (some b)) (.int .i64 k) true).run Tryd.prog w = .ok (.tuple #[(M k).getD (.agg #[.int .i64 0, .int .i64 0]), .bool (M k).isSome]) w := by
  obtain ⟨D, h, hM⟩ := h
  obtain ⟨v, ps, hrun, hv⟩ := h.look_ok glawK Tryd.underlying52 (zeroG w) (zd := .held (.agg #[.int .i64 0, .int .i64 0])) (zp := []) rfl (keyOf_int_mk Tryd.underlying3 hk)
  obtain ⟨h1, h2⟩ := hM k hk
  rw [h2] at hv
  rw [h1] at hrun
  injection hv with hv
  injection hv with hv _
  injection hv with hv
  rw [hv] at hrun
  exact hrun
set_option maxRecDepth 100000 in
theorem GMapI.drop {w : World} {b n : Nat} {M : Int → Option Value} (h : GMapI w b n M) (k : Int) (hk : (Lit.int .i64 k).wf = true) (ty : TypeId) :
    ∃ w', (Builtin.delete_ #[52, 3] ty #[.map (some b), .int .i64 k]).run Tryd.prog w = .ok (.tuple #[]) w' ∧ GMapI w' b n (fun x => if x = k then none else M x) ∧ Chg (fun x => x = b) w w' := by
  obtain ⟨D, h, hM⟩ := h
  obtain ⟨w', hrun, h', ht⟩ := h.drop glawK Tryd.underlying52 (keyOf_int_mk Tryd.underlying3 hk) ty
  refine ⟨w', hrun, ⟨_, h', fun x hx => ?_⟩, (Chg.of_grown ht.grown).mono (fun i _ e => by injection e with e; exact e.symm)⟩
  by_cases e : x = k
  · subst e
    simp only [if_true]
    exact ⟨Maps.has_del_same, Maps.atKey_del_same _⟩
  · simp only [if_neg e]
    have hne : (Lit.int .i64 x : Lit) ≠ .int .i64 k := fun h => e (by injection h)
    rw [Maps.has_del_other hne, Maps.atKey_del_other hne]
    exact hM x hx
set_option maxRecDepth 100000 in
theorem GMapI.store {w : World} {b n : Nat} {M : Int → Option Value} (h : GMapI w b n M) (k : Int) (hk : (Lit.int .i64 k).wf = true) (v : Value) (hn : n < maxLen) :
    ∃ w', (Instr.mapUpdate 52 (.map (some b)) (.int .i64 k) v).run Tryd.prog w = .ok () w' ∧ GMapI w' b (n + 1) (fun x => if x = k then some v else M x) ∧ Chg (fun x => x = b) w w' := by
  obtain ⟨D, h, hM⟩ := h
  have hm := h.isMap
  obtain ⟨w', hrun, h', ht⟩ := h.store glawK Tryd.underlying52 hn (keyOf_int_mk Tryd.underlying3 hk) (val := v) (d := .held v) (ps := []) rfl
  refine ⟨w', hrun, ⟨_, h', fun x hx => ?_⟩, (Chg.of_grown ht.grown).mono (fun i _ e => by injection e with e; exact e.symm)⟩
  by_cases e : x = k
  · subst e
    simp only [if_true]
    exact ⟨Maps.has_put_same hm (gisKey _) _, Maps.atKey_put_same hm (gisKey _) _ _⟩
  · simp only [if_neg e]
    have hne : (Lit.int .i64 x : Lit) ≠ .int .i64 k := fun h => e (by injection h)
    rw [Maps.has_put_other hne, Maps.atKey_put_other hne]
    exact hM x hx
/-- a guard's value -/
def gval (g : Nat × Int) : Value := .agg #[.int .i64 g.1, .int .i64 g.2]
/-- block b is the map of guards M -/
def GMap (w : World) (b n : Nat) (M : Int → Option (Nat × Int)) : Prop := GMapI w b n (fun k => (M k).map gval)
end Go.Proofs.YtgiegkacilfofabDoor
