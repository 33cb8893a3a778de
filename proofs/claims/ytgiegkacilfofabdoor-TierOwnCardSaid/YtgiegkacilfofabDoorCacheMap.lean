/- A map from numbers to values, told as a function. -/
import Derived.Test.YtgiegkacilfofabDoorRow
import Derived.Maps.OwnSet
namespace Go.Proofs.YtgiegkacilfofabDoor
set_option linter.unusedVariables false
set_option linter.unusedSimpArgs false
open Go.RowKit Go.Maps

/-- an element is told by itself -/
def selfElem (v : Value) : Option (DataW Value × List MemPlace) := some (.held v, [])
/-- block b is the map M (of at most n entries) -/
def MapIs (w : World) (b n : Nat) (M : Int → Option Value) : Prop :=
  ∃ D : DataW Value, w.ownsMap Tryd.prog 3 selfElem b n D ∧ ∀ k, (Lit.int .i64 k).wf = true → Maps.has D (.int .i64 k) = (M k).isSome ∧ D.atKey (.int .i64 k) (.held (.slice none 0 0)) = .held ((M k).getD (.slice none 0 0))

theorem lawK : Keyed Tryd.prog 3 := int_keyed Tryd.underlying3
theorem isKey (k : Int) : WideAt.IsKeyLit (.int .i64 k) := by first | exact trivial | constructor | simp [WideAt.IsKeyLit]
theorem MapIs.made (w : World) : MapIs (w.alloc (.map #[] 0)) w.heap.size 0 (fun _ => none) := ⟨.map [], World.ownsMap_made _ _ _ _, fun k _ => ⟨rfl, rfl⟩⟩
theorem MapIs.lt {w : World} {b n : Nat} {M : Int → Option Value} (h : MapIs w b n M) : b < w.heap.size := by obtain ⟨D, h, _⟩ := h; exact h.lt
theorem MapIs.kept {w w' : World} {T : Nat → Prop} {b n : Nat} {M : Int → Option Value} (h : MapIs w b n M) (hc : Chg T w w') (hn : ¬ T b) : MapIs w' b n M := by
  obtain ⟨D, ⟨es, clock, hb, r⟩, hM⟩ := h
  exact ⟨D, ⟨es, clock, hc.heap hb hn, r⟩, hM⟩
theorem MapIs.mono {w : World} {b n n' : Nat} {M : Int → Option Value} (h : MapIs w b n M) (hn : n ≤ n') : MapIs w b n' M := by
  obtain ⟨D, h, hM⟩ := h
  exact ⟨D, h.mono hn, hM⟩
theorem zeroS (w : World) : (zeroValue 32).run Tryd.prog w = .ok (.slice none 0 0) w := by kernel_rfl
set_option maxRecDepth 100000 in
theorem MapIs.look {w : World} {b n : Nat} {M : Int → Option Value} (h : MapIs w b n M) (k : Int) (hk : (Lit.int .i64 k).wf = true) :
    (Instr.lookup 84 (.map (some b)) (.int .i64 k) true).run Tryd.prog w = .ok (.tuple #[(M k).getD (.slice none 0 0), .bool (M k).isSome]) w := by
  obtain ⟨D, h, hM⟩ := h
  obtain ⟨v, ps, hrun, hv⟩ := h.look_ok lawK Tryd.underlying84 (zeroS w) (zd := .held (.slice none 0 0)) (zp := []) rfl (keyOf_int_mk Tryd.underlying3 hk)
  obtain ⟨h1, h2⟩ := hM k hk
  rw [h2] at hv
  rw [h1] at hrun
  injection hv with hv
  injection hv with hv _
  injection hv with hv
  rw [hv] at hrun
  exact hrun
set_option maxRecDepth 100000 in
theorem MapIs.drop {w : World} {b n : Nat} {M : Int → Option Value} (h : MapIs w b n M) (k : Int) (hk : (Lit.int .i64 k).wf = true) (ty : TypeId) :
    ∃ w', (Builtin.delete_ #[84, 3] ty #[.map (some b), .int .i64 k]).run Tryd.prog w = .ok (.tuple #[]) w' ∧ MapIs w' b n (fun x => if x = k then none else M x) ∧ Chg (fun x => x = b) w w' := by
  obtain ⟨D, h, hM⟩ := h
  obtain ⟨w', hrun, h', ht⟩ := h.drop lawK Tryd.underlying84 (keyOf_int_mk Tryd.underlying3 hk) ty
  refine ⟨w', hrun, ⟨_, h', fun x hx => ?_⟩, (Chg.of_grown ht.grown).mono (fun i _ e => by injection e with e; exact e.symm)⟩
  by_cases e : x = k
  · subst e
    simp only [if_true]
    exact ⟨Maps.has_del_same, Maps.atKey_del_same _⟩
  · simp only [if_neg e]
    have hne : (Lit.int .i64 x : Lit) ≠ .int .i64 k := fun h => e (by injection h)
    rw [Maps.has_del_other hne, Maps.atKey_del_other hne]
    exact hM x hx
set_option maxRecDepth 100000 in
theorem MapIs.store {w : World} {b n : Nat} {M : Int → Option Value} (h : MapIs w b n M) (k : Int) (hk : (Lit.int .i64 k).wf = true) (v : Value) (hn : n < maxLen) :
    ∃ w', (Instr.mapUpdate 84 (.map (some b)) (.int .i64 k) v).run Tryd.prog w = .ok () w' ∧ MapIs w' b (n + 1) (fun x => if x = k then some v else M x) ∧ Chg (fun x => x = b) w w' := by
  obtain ⟨D, h, hM⟩ := h
  have hm := h.isMap
  obtain ⟨w', hrun, h', ht⟩ := h.store lawK Tryd.underlying84 hn (keyOf_int_mk Tryd.underlying3 hk) (val := v) (d := .held v) (ps := []) rfl
  refine ⟨w', hrun, ⟨_, h', fun x hx => ?_⟩, (Chg.of_grown ht.grown).mono (fun i _ e => by injection e with e; exact e.symm)⟩
  by_cases e : x = k
  · subst e
    simp only [if_true]
    exact ⟨Maps.has_put_same hm (isKey _) _, Maps.atKey_put_same hm (isKey _) _ _⟩
  · simp only [if_neg e]
    have hne : (Lit.int .i64 x : Lit) ≠ .int .i64 k := fun h => e (by injection h)
    rw [Maps.has_put_other hne, Maps.atKey_put_other hne]
    exact hM x hx
end Go.Proofs.YtgiegkacilfofabDoor
