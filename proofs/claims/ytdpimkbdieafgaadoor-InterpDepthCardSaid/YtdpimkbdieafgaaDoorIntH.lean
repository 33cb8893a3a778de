/- interp: what run, call and calls begin with. -/
import Derived.Test.YtdpimkbdieafgaaDoorIntG
import Derived.Test.YtdpimkbdieafgaaDoorIntR
import Derived.Test.YtdpimkbdieafgaaDoorOrdT
namespace Go.Proofs.YtdpimkbdieafgaaDoor
set_option linter.unusedVariables false
set_option linter.unusedSimpArgs false
open Go.RowKit

/-- a call of a function value, by its contract -/
theorem wp_callv {P : Program} {Q : Exit → Act → World → Prop} {o : Oper} {a : Act} {w : World} {K : Act → World → Prop} (f : FuncId) (fn : Func) (c : Code) (hf : P.funcs[f]? = some fn) (hb : fn.body = some c) (hname : (fn.name == "runtime.NumGoroutine") = false)
    (t : Operand) (xs : Array Operand) (ats : Array TypeId) (ho : o.op = .call { callee := .value t, args := xs, argTypes := ats }) (ht : a.eval t = .func (.func f) #[] #[]) (args : Array Value) (ha : xs.map a.eval = args)
    {R : Value → World → Prop} (hc : Calls P f args w (RetIs R)) (h : ∀ v w', R v w' → K (a.put o.dst v) w') : o.wp P a w K Q := by
  obtain ⟨dst, op, ty, pos, after, guard⟩ := o
  simp only at ho
  subst ho
  unfold Oper.wp
  have e0 : execOp a.eval { dst, op := .call { callee := .value t, args := xs, argTypes := ats }, type := ty, pos, after, guard } = callFunc f (#[] ++ xs.map a.eval ++ #[]) := by
    have h1 : execOp a.eval { dst, op := .call { callee := .value t, args := xs, argTypes := ats }, type := ty, pos, after, guard } = execOp a.eval { dst, op := .call { callee := .value (.func f), args := xs, argTypes := ats }, type := ty, pos, after, guard } := by
      have h2 : a.eval (.func f) = .func (.func f) #[] #[] := rfl
      simp only [execOp, resolve, ht, h2]
    rw [h1, execOp_call_go]
  rw [e0]
  have e : (#[] ++ xs.map a.eval ++ #[] : Array Value) = args := by simp [ha]
  rw [e, callFunc_enter hf hname hb]
  rw [Oper.upon_enter]
  refine hc.mono ?_
  intro e w' he
  cases e with
  | returned v => exact h v w' he
  | panicked _ => exact he.elim
  | outgrown => exact he.elim

/-- numbers are copied to the beginning of a row of noughts -/
theorem nums_over (n : Nat) (l : List Int) (h : l.length ≤ n) : over (madeCells #[.int .i64 0] n).toList 0 (nums l) = nums (l ++ List.replicate (n - l.length) 0) := by
  have hm : (madeCells #[.int .i64 0] n).toList = List.replicate n (Value.int .i64 0) := by
    apply List.ext_getElem?
    intro j
    rw [Array.getElem?_toList]
    by_cases hj : j < n
    · rw [List.getElem?_replicate, if_pos hj]
      simp [madeCells, hj, Nat.mod_one]
    · rw [List.getElem?_replicate, if_neg hj]
      simp [madeCells, hj]
  unfold over
  rw [hm, List.take_zero, List.nil_append, Nat.zero_add, nums_length, List.drop_replicate]
  simp [nums, List.map_append]
theorem FSt.new {w : World} {GA GB vs ar : Nat} (hA : w.ownsRow 0 2 1 (.slice (some ⟨GA, 0, none⟩) vs vs) vs (nums (List.replicate vs 0))) (hB : w.ownsRow 0 3 1 (.slice (some ⟨GB, 0, none⟩) ar ar) ar (nums (List.replicate ar (-1)))) (hne : GA ≠ GB) :
    FSt (w.alloc (.cells #[.slice (some ⟨GA, 0, none⟩) vs vs, .slice (some ⟨GB, 0, none⟩) ar ar, .slice none 0 0] 134)) w.heap.size (.slice (some ⟨GA, 0, none⟩) vs vs) (.slice (some ⟨GB, 0, none⟩) ar ar) (.slice none 0 0) (List.replicate vs 0) (List.replicate ar (-1)) [] := by
  have hc := (Chg.refl (fun _ => False) w).alloc (.cells #[.slice (some ⟨GA, 0, none⟩) vs vs, .slice (some ⟨GB, 0, none⟩) ar ar, .slice none 0 0] 134)
  have lA := ownsRow_lt hA GA rfl
  have lB := ownsRow_lt hB GB rfl
  refine ⟨heap_new _ _, ?_, ?_, World.ownsRow_nil _ _ _ _, fun e => ?_, fun e => ?_, (fun e => by cases e), fun k hk e => ?_, (fun k hk e => by cases e), (fun k hk e => by cases e)⟩
  · rw [List.length_replicate]; exact ownsRow_kept hA hc (fun _ _ x => x)
  · rw [List.length_replicate]; exact ownsRow_kept hB hc (fun _ _ x => x)
  · have e : some GA = some w.heap.size := e
    injection e with e
    omega
  · have e : some GB = some w.heap.size := e
    injection e with e
    omega
  · have hk : some GA = some k := hk
    have e : some GB = some k := e
    injection hk with hk
    injection e with e
    exact hne (hk.trans e.symm)
/-- what copying the arguments does -/
theorem FSt.args {w : World} {F GA vs : Nat} {VB : Value} {ar : List Int} (h : FSt w F (.slice (some ⟨GA, 0, none⟩) vs vs) VB (.slice none 0 0) (List.replicate vs 0) ar []) (hcells : w.heap[GA]? = some (.cells (madeCells #[.int .i64 0] vs) 2 (0, 0))) {V : Value} {l : List Int} (hl : NumSrc w V l) (hle : l.length ≤ vs) :
    ∃ w', (∀ ty, (Builtin.copy_ #[25, 25] ty #[.slice (some ⟨GA, 0, none⟩) vs vs, V]).run Tryd.prog w = .ok (goInt l.length) w') ∧ FSt w' F (.slice (some ⟨GA, 0, none⟩) vs vs) VB (.slice none 0 0) (l ++ List.replicate (vs - l.length) 0) ar [] ∧ Chg (fun k => k = GA) w w' := by
  obtain ⟨A, c, rfl, h1, h2, h3⟩ := hl
  have hGA := h.na
  have hlen : (l ++ List.replicate (vs - l.length) 0).length = vs := by rw [List.length_append, List.length_replicate]; omega
  cases hll : l with
  | nil =>
    subst hll
    refine ⟨w, fun ty => ?_, ?_, Chg.refl _ _⟩
    · cases A with
      | none => exact copy_nil w _ _ ty 2 _ vs vs c Tryd.underlying25 (by rw [sizeL]; rfl)
      | some ad =>
        have := copy_cells (P := Tryd.prog) w 25 25 ty 2 1 GA 0 vs vs ad 0 c (madeCells #[.int .i64 0] vs) 2 [] Tryd.underlying25 sizeL hcells (by simp) (by simp) (by simp) (by simp)
        rw [show over (madeCells #[.int .i64 0] vs).toList 0 [] = (madeCells #[.int .i64 0] vs).toList by simp [over], Array.toArray_toList, setRow_self w GA _ 2 (0, 0) hcells] at this
        simpa using this
    · have e : ([] : List Int) ++ List.replicate (vs - ([] : List Int).length) 0 = List.replicate vs 0 := by simp
      rw [e]; exact h
  | cons x t =>
    rw [← hll]
    obtain ⟨b, off, rfl, h4⟩ := h3 (by rw [hll]; simp)
    have hcp := fun ty => copy_cells (P := Tryd.prog) w 25 25 ty 2 1 GA 0 vs vs ⟨b, off, none⟩ l.length c (madeCells #[.int .i64 0] vs) 2 (nums l) Tryd.underlying25 sizeL hcells (by rw [nums_length, Nat.mul_one]; exact (Nat.min_eq_left hle).symm) (fun j v hj => by
      have hj1 : j < l.length := by have := (List.getElem?_eq_some_iff.1 hj).1; rwa [nums_length] at this
      rw [nums_get l j hj1] at hj
      injection hj with hj
      have e1 : (⟨b, off, none⟩ : Addr).add j = ⟨b, off + j, none⟩ := by unfold Addr.add; split <;> simp_all
      rw [← hj, e1]
      exact h4 j _ (List.getElem?_eq_getElem hj1)) (by rw [nums_length]; simp [made_size]; omega) (fun v hv => by obtain ⟨y, _, rfl⟩ := List.mem_map.1 hv; rfl)
    have hmin : Nat.min l.length vs = l.length := Nat.min_eq_left hle
    rw [hmin] at hcp
    rw [nums_over vs l hle] at hcp
    have hch : Chg (fun k => k = GA) w (w.setRow GA (nums (l ++ List.replicate (vs - l.length) 0)).toArray) := (Chg.refl (fun k => k = GA) w).setRow (fun _ => rfl) _
    refine ⟨_, hcp, ⟨hch.heap h.box (fun e => h.na (congrArg some e.symm)), ?_, ownsRow_kept h.vb hch (fun k hk e => h.ab k (congrArg some e.symm) hk), World.ownsRow_nil _ _ _ _, h.na, h.nb, (fun e => by cases e), h.ab, (fun k hk e => by cases e), (fun k hk e => by cases e)⟩, hch⟩
    rw [hlen]
    refine ⟨by rw [nums_length, hlen]; omega, .inr ⟨GA, vs, _, rfl, Nat.zero_le _, setRow_heap w GA _ _ 2 (0, 0) hcells, Nat.le_refl _, ?_, by rw [List.size_toArray, nums_length, hlen]; omega, ?_⟩⟩
    · have := h.va.2
      rw [List.length_replicate] at this
      rcases this with ⟨e, _⟩ | ⟨_, cap, _, e, _, _, _, hm, _⟩
      · cases e
      · injection e with _ _ e; omega
    · simp only [Nat.mul_one]
      exact List.take_of_length_le (by rw [nums_length, hlen]; exact Nat.le_refl _)
end Go.Proofs.YtdpimkbdieafgaaDoor
