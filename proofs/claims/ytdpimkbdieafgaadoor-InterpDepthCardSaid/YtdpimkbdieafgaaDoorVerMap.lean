/- map[int]int, told as a function. -/
import Derived.Test.YtdpimkbdieafgaaDoorRow
import Derived.Maps.OwnSet
namespace Go.Proofs.YtdpimkbdieafgaaDoor
set_option linter.unusedVariables false
set_option linter.unusedSimpArgs false
open Go.RowKit Go.Maps

/-- an element is told by itself -/
def selfE (v : Value) : Option (DataW Value × List MemPlace) := some (.held v, [])
/-- block b is the map M (of at most n entries) -/
def VMap (w : World) (b n : Nat) (M : Int → Option Int) : Prop :=
  ∃ D : DataW Value, w.ownsMap Tryd.prog 3 selfE b n D ∧ ∀ k, (Lit.int .i64 k).wf = true → Maps.has D (.int .i64 k) = (M k).isSome ∧ D.atKey (.int .i64 k) (.held (.int .i64 0)) = .held (.int .i64 ((M k).getD 0))

theorem vlawK : Keyed Tryd.prog 3 := int_keyed Tryd.underlying3
theorem visKey (k : Int) : WideAt.IsKeyLit (.int .i64 k) := by first | exact trivial | constructor | simp [WideAt.IsKeyLit]
theorem VMap.made (w : World) : VMap (w.alloc (.map #[] 0)) w.heap.size 0 (fun _ => none) := ⟨.map [], World.ownsMap_made _ _ _ _, fun k _ => ⟨rfl, rfl⟩⟩
theorem VMap.lt {w : World} {b n : Nat} {M : Int → Option Int} (h : VMap w b n M) : b < w.heap.size := by obtain ⟨D, h, _⟩ := h; exact h.lt
theorem VMap.kept {w w' : World} {T : Nat → Prop} {b n : Nat} {M : Int → Option Int} (h : VMap w b n M) (hc : Chg T w w') (hn : ¬ T b) : VMap w' b n M := by
  obtain ⟨D, ⟨es, clock, hb, r⟩, hM⟩ := h
  exact ⟨D, ⟨es, clock, hc.heap hb hn, r⟩, hM⟩
theorem VMap.mono {w : World} {b n n' : Nat} {M : Int → Option Int} (h : VMap w b n M) (hn : n ≤ n') : VMap w b n' M := by
  obtain ⟨D, h, hM⟩ := h
  exact ⟨D, h.mono hn, hM⟩
theorem VMap.heap {w w' : World} {b n : Nat} {M : Int → Option Int} (h : VMap w b n M) (e : w'.heap = w.heap) : VMap w' b n M := by
  obtain ⟨D, ⟨es, clock, hb, r⟩, hM⟩ := h
  exact ⟨D, ⟨es, clock, by rw [e]; exact hb, r⟩, hM⟩
theorem zeroI (w : World) : (zeroValue 3).run Tryd.prog w = .ok (.int .i64 0) w := by kernel_rfl
set_option maxRecDepth 100000 in
theorem VMap.look_ok {w : World} {b n : Nat} {M : Int → Option Int} (h : VMap w b n M) (k : Int) (hk : (Lit.int .i64 k).wf = true) :
    (Instr.lookup 105 (.map (some b)) (.int .i64 k) true).run Tryd.prog w = .ok (.tuple #[.int .i64 ((M k).getD 0), .bool (M k).isSome]) w := by
  obtain ⟨D, h, hM⟩ := h
  obtain ⟨v, ps, hrun, hv⟩ := h.look_ok vlawK Tryd.underlying105 (zeroI w) (zd := .held (.int .i64 0)) (zp := []) rfl (keyOf_int_mk Tryd.underlying3 hk)
  obtain ⟨h1, h2⟩ := hM k hk
  rw [h2] at hv
  rw [h1] at hrun
  injection hv with hv
  injection hv with hv _
  injection hv with hv
  rw [hv] at hrun
  exact hrun
set_option maxRecDepth 100000 in
theorem VMap.look {w : World} {b n : Nat} {M : Int → Option Int} (h : VMap w b n M) (k : Int) (hk : (Lit.int .i64 k).wf = true) :
    (Instr.lookup 105 (.map (some b)) (.int .i64 k) false).run Tryd.prog w = .ok (.int .i64 ((M k).getD 0)) w := by
  obtain ⟨D, h, hM⟩ := h
  obtain ⟨v, ps, hrun, hv⟩ := h.lookup vlawK Tryd.underlying105 (zeroI w) (zd := .held (.int .i64 0)) (zp := []) rfl (keyOf_int_mk Tryd.underlying3 hk)
  obtain ⟨h1, h2⟩ := hM k hk
  rw [h2] at hv
  injection hv with hv
  injection hv with hv _
  injection hv with hv
  rw [hv] at hrun
  exact hrun
set_option maxRecDepth 100000 in
theorem VMap.store {w : World} {b n : Nat} {M : Int → Option Int} (h : VMap w b n M) (k : Int) (hk : (Lit.int .i64 k).wf = true) (v : Int) (hn : n < maxLen) :
    ∃ w', (Instr.mapUpdate 105 (.map (some b)) (.int .i64 k) (.int .i64 v)).run Tryd.prog w = .ok () w' ∧ VMap w' b (n + 1) (fun x => if x = k then some v else M x) ∧ Chg (fun x => x = b) w w' := by
  obtain ⟨D, h, hM⟩ := h
  have hm := h.isMap
  obtain ⟨w', hrun, h', ht⟩ := h.store vlawK Tryd.underlying105 hn (keyOf_int_mk Tryd.underlying3 hk) (val := .int .i64 v) (d := .held (.int .i64 v)) (ps := []) rfl
  refine ⟨w', hrun, ⟨_, h', fun x hx => ?_⟩, (Chg.of_grown ht.grown).mono (fun i _ e => by injection e with e; exact e.symm)⟩
  by_cases e : x = k
  · subst e
    simp only [if_true]
    exact ⟨Maps.has_put_same hm (visKey _) _, Maps.atKey_put_same hm (visKey _) _ _⟩
  · simp only [if_neg e]
    have hne : (Lit.int .i64 x : Lit) ≠ .int .i64 k := fun h => e (by injection h)
    rw [Maps.has_put_other hne, Maps.atKey_put_other hne]
    exact hM x hx
end Go.Proofs.YtdpimkbdieafgaaDoor
