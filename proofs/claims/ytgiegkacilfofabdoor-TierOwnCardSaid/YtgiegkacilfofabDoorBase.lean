/- What a call changes: 'Chg S w w'': all blocks that were there and are not in S are as they were; the streams too. Small lemmas on it. -/
import Derived.Test.YtgiegkacilfofabDoorProg
import Derived.WalkKit
import Derived.KernelRfl
import Derived.Maps.AppendAt
import Derived.Deep.Draws
namespace Go.Proofs.YtgiegkacilfofabDoor
set_option linter.unusedVariables false
set_option linter.unusedSimpArgs false
open Go.RowKit

structure Chg (S : Nat → Prop) (w w' : World) : Prop where
  os : w'.os = w.os
  tape : w'.tape = w.tape
  output : w'.output = w.output
  size : w.heap.size ≤ w'.heap.size
  block : ∀ k, k < w.heap.size → ¬ S k → w'.heap[k]? = w.heap[k]?

theorem Chg.refl (S : Nat → Prop) (w : World) : Chg S w w := ⟨rfl, rfl, rfl, Nat.le_refl _, fun _ _ _ => rfl⟩
theorem Chg.trans {S S' T : Nat → Prop} {a b c : World} (h : Chg S a b) (k : Chg S' b c) (hS : ∀ i, i < a.heap.size → S i → T i) (hS' : ∀ i, i < a.heap.size → S' i → T i) : Chg T a c :=
  ⟨k.os.trans h.os, k.tape.trans h.tape, k.output.trans h.output, Nat.le_trans h.size k.size,
    fun i hi hn => (k.block i (Nat.lt_of_lt_of_le hi h.size) (fun hs => hn (hS' i hi hs))).trans (h.block i hi (fun hs => hn (hS i hi hs)))⟩
theorem Chg.then {S : Nat → Prop} {a b c : World} (h : Chg S a b) (k : Chg S b c) : Chg S a c := h.trans k (fun _ _ x => x) (fun _ _ x => x)
theorem Chg.mono {S T : Nat → Prop} {a b : World} (h : Chg S a b) (hS : ∀ i, i < a.heap.size → S i → T i) : Chg T a b := ⟨h.os, h.tape, h.output, h.size, fun i hi hn => h.block i hi (fun hs => hn (hS i hi hs))⟩
theorem Chg.drew {S : Nat → Prop} {a b : World} (h : Chg S a b) : Chg S a b.drew := ⟨h.os, h.tape, h.output, h.size, h.block⟩
theorem Chg.drewN {S : Nat → Prop} {a b : World} (h : Chg S a b) (n : Nat) : Chg S a (b.drewN n) := ⟨h.os, h.tape, h.output, h.size, h.block⟩
theorem Chg.of_drewN {S : Nat → Prop} {a b : World} {n : Nat} (h : Chg S (a.drewN n) b) : Chg S a b := ⟨h.os, h.tape, h.output, h.size, h.block⟩
theorem Chg.of_drew {S : Nat → Prop} {a b : World} (h : Chg S a.drew b) : Chg S a b := ⟨h.os, h.tape, h.output, h.size, h.block⟩
theorem Chg.alloc {S : Nat → Prop} {a b : World} (h : Chg S a b) (o : Obj) : Chg S a (b.alloc o) :=
  h.then ⟨rfl, rfl, rfl, by simp, fun k hk _ => Below.heap_alloc _ _ _ hk⟩
theorem Chg.setCell {S : Nat → Prop} {a b : World} (h : Chg S a b) {p : Addr} (hp : p.block < a.heap.size → S p.block) (u : Value) : Chg S a (b.setCell p u) :=
  h.trans (S' := fun k => k = p.block) ⟨rfl, rfl, rfl, by simp [World.setCell], fun k _ hn => Below.heap_setCell _ _ _ _ hn⟩ (fun _ _ x => x) (fun i hi e => by subst e; exact hp hi)
theorem Chg.grownBy {S : Nat → Prop} {a b c : World} {row : Option Nat} (h : Chg S a b) (hg : b.grownBy c row) (hr : ∀ k, row = some k → k < a.heap.size → S k) : Chg S a c :=
  h.trans (S' := fun k => row = some k) ⟨hg.os, hg.tape, hg.output, hg.size, fun k hk hn => hg.block k hk (fun e => hn e.symm)⟩ (fun _ _ x => x) (fun i hi e => hr i e hi)
theorem Chg.below {S : Nat → Prop} {a b : World} {B : Nat} (h : Chg S a b) (hS : ∀ k, S k → B ≤ k) (hB : B ≤ a.heap.size) : Below B a b :=
  ⟨h.os, h.tape, h.output, h.size, fun k hk => h.block k (by omega) (fun hs => by have := hS k hs; omega)⟩
theorem Chg.of_below {a b : World} (h : Below a.heap.size a b) (S : Nat → Prop) : Chg S a b := ⟨h.os, h.tape, h.output, h.size, fun k hk _ => h.block k hk⟩
theorem Chg.to_below {a b : World} (h : Chg (fun _ => False) a b) : Below a.heap.size a b := ⟨h.os, h.tape, h.output, h.size, fun k hk => h.block k hk (fun x => x)⟩

theorem lt_of_heap {w : World} {k : Nat} {o : Obj} (h : w.heap[k]? = some o) : k < w.heap.size := (Array.getElem?_eq_some_iff.1 h).1
theorem Chg.heap {S : Nat → Prop} {w w' : World} (h : Chg S w w') {k : Nat} {o : Obj} (hb : w.heap[k]? = some o) (hn : ¬ S k) : w'.heap[k]? = some o := (h.block k (lt_of_heap hb) hn).trans hb
theorem Chg.cell {S : Nat → Prop} {w w' : World} (h : Chg S w w') {p : Addr} {v : Value} (hc : w.cell? p = some v) (hn : ¬ S p.block) : w'.cell? p = some v :=
  (World.cell?_of_block (h.block p.block (World.block_lt_of_cell? w p hc) hn)).trans hc
theorem Chg.frozen {S : Nat → Prop} {w w' : World} (h : Chg S w w') {p : Addr} (hp : p.block < w.heap.size) (hn : ¬ S p.block) : w'.frozen? p = w.frozen? p :=
  World.frozen?_of_block (h.block p.block hp hn)

theorem cell_of_block {w : World} {g : Nat} {cs : Array Value} {t : TypeId} {fr : Nat × Nat} (h : w.heap[g]? = some (.cells cs t fr)) (j : Nat) : w.cell? ⟨g, j, none⟩ = cs[j]? := by
  simp [World.cell?, h]
theorem frozen_of_block {w : World} {g : Nat} {cs : Array Value} {t : TypeId} (h : w.heap[g]? = some (.cells cs t (0, 0))) (j : Nat) : w.frozen? ⟨g, j, none⟩ = false := by
  simp [World.frozen?, h]
theorem heap_set {w : World} {g : Nat} {cs : Array Value} {t : TypeId} {fr : Nat × Nat} (h : w.heap[g]? = some (.cells cs t fr)) (j : Nat) (u : Value) : (w.setCell ⟨g, j, none⟩ u).heap[g]? = some (.cells (cs.setIfInBounds j u) t fr) := by
  simp only [World.setCell, Array.getElem?_modify, if_pos rfl, h, Option.map_some]
  rfl
theorem heap_set_ne {w : World} {p : Addr} {k : Nat} (u : Value) (hne : k ≠ p.block) : (w.setCell p u).heap[k]? = w.heap[k]? := Below.heap_setCell _ _ _ _ hne
theorem heap_new (w : World) (o : Obj) : (w.alloc o).heap[w.heap.size]? = some o := by
  show (w.heap.push o)[w.heap.size]? = _
  simp
theorem heap_old {w : World} {o : Obj} {k : Nat} {x : Obj} (h : w.heap[k]? = some x) : (w.alloc o).heap[k]? = some x := (Below.heap_alloc _ _ _ (lt_of_heap h)).trans h
theorem cell_alloc {w : World} {p : Addr} {v : Value} (h : w.cell? p = some v) (o : Obj) : (w.alloc o).cell? p = some v :=
  (World.cell?_of_block (Below.heap_alloc w o p.block (World.block_lt_of_cell? w p h))).trans h
theorem frozen_alloc {w : World} {p : Addr} (h : p.block < w.heap.size) (o : Obj) : (w.alloc o).frozen? p = w.frozen? p :=
  World.frozen?_of_block (Below.heap_alloc w o p.block h)
theorem Chg.set_cell {w : World} (p : Addr) (u : Value) : Chg (fun k => k = p.block) w (w.setCell p u) := (Chg.refl (fun k => k = p.block) w).setCell (fun _ => rfl) u
theorem cell_set_ne {w : World} {p q : Addr} (u : Value) (hne : q ≠ p) (hq : q.spot = none) (hp : p.spot = none) : (w.setCell p u).cell? q = w.cell? q := by
  obtain ⟨b, o, s⟩ := p
  obtain ⟨b', o', s'⟩ := q
  simp only at hq hp
  subst hq; subst hp
  by_cases hb : b' = b
  · subst hb
    have ho : o' ≠ o := fun e => hne (by rw [e])
    cases hh : w.heap[b']? with
    | none => simp [World.cell?, World.setCell, Array.getElem?_modify, hh]
    | some x =>
      cases x <;> simp [World.cell?, World.setCell, Array.getElem?_modify, hh]
      rw [Array.getElem?_setIfInBounds_ne (by omega)]
  · exact World.cell?_of_block (Below.heap_setCell w ⟨b, o, none⟩ u b' hb)
theorem cell_set_eq {w : World} {p : Addr} {v : Value} (h : w.cell? p = some v) (u : Value) : (w.setCell p u).cell? p = some u := by
  obtain ⟨b, o, s⟩ := p
  cases hh : w.heap[b]? with
  | none => simp [World.cell?, hh] at h
  | some x =>
    cases x with
    | cells c e fr =>
      cases s with
      | some _ => simp [World.cell?, hh] at h
      | none =>
        simp [World.cell?, hh] at h
        have ho : o < c.size := (Array.getElem?_eq_some_iff.1 h).1
        simp [World.cell?, World.setCell, Array.getElem?_modify, hh, ho]
    | _ => simp [World.cell?, hh] at h

theorem callFunc_enter {P : Program} {f : FuncId} {fn : Func} {c : Code} (hf : P.funcs[f]? = some fn) (hname : (fn.name == "runtime.NumGoroutine") = false) (hb : fn.body = some c) (args : Array Value) (w : World) :
    (callFunc f args).run P w = .ok (.enter f args) w := by
  show Sem.run P (match P.funcs[f]? with | none => _ | some fn => _) w = _
  rw [hf]
  simp only [hname, hb]
  rfl

/-- it returns a value of which R holds -/
def RetIs (R : Value → World → Prop) : Ending → World → Prop
  | .returned v, w' => R v w'
  | _, _ => False
/-- a call of a Go function at a step of a region that draws its order: for 'go_region_law' -/
theorem step_call {P : Program} {ops : Array Oper} {o : Oper} {a : Act} {w : World} {K : Act → World → Prop} {Q : Exit → Act → World → Prop} {E : Prop} (f : FuncId) (fn : Func) (c : Code) (hf : P.funcs[f]? = some fn) (hb : fn.body = some c) (hname : (fn.name == "runtime.NumGoroutine") = false)
    (hgd : o.guard = none) (xs : Array Operand) (ats : Array TypeId) (ho : o.op = .call { callee := .value (.func f), args := xs, argTypes := ats }) (args : Array Value) (ha : xs.map a.eval = args)
    {R : Value → World → Prop} (hc : Calls P f args w (RetIs R)) (h : ∀ v w', R v w' → K (a.put o.dst v) w') :
    if Region.wanted o (yielded ops a.tmps) = true then Oper.wp P o a w K Q else E := by
  have hw : Region.wanted o (yielded ops a.tmps) = true := by simp [Region.wanted, hgd]
  rw [if_pos hw]
  obtain ⟨dst, op, ty, pos, after, guard⟩ := o
  simp only at ho hgd
  subst ho
  unfold Oper.wp
  rw [execOp_call_go]
  have e : (#[] ++ xs.map a.eval ++ #[] : Array Value) = args := by simp [ha]
  rw [e, callFunc_enter hf hname hb]
  rw [Oper.upon_enter]
  refine hc.mono ?_
  intro e w' he
  cases e with
  | returned v => exact h v w' he
  | panicked _ => exact he.elim
  | outgrown => exact he.elim
/-- a contract in the form that 'step_call' takes -/
theorem calls_ret {P : Program} {f : FuncId} {args : Array Value} {w : World} {R : Ending → World → Prop} {T : Value → World → Prop} (h : Calls P f args w R) (hr : ∀ e w', R e w' → ∃ v, e = .returned v ∧ T v w') : Calls P f args w (RetIs T) :=
  h.mono fun e w' he => by obtain ⟨v, rfl, ht⟩ := hr e w' he; exact ht

/-- a slice of whole numbers that came in: what it reads as -/
structure IntRow (k : IntKind) (w : World) (a : Option Addr) (len : Nat) (zs : List Int) : Prop where
  length : zs.length = len
  wf : ∀ z ∈ zs, (Lit.int k z).wf = true
  at_ : 0 < len → ∃ b off, a = some ⟨b, off, none⟩ ∧ ∀ j, j < len → w.cell? ⟨b, off + j, none⟩ = some (.int k (zs.getD j 0))
theorem IntRow.wfD {k : IntKind} {w : World} {a : Option Addr} {len : Nat} {zs : List Int} (h : IntRow k w a len zs) (j : Nat) (hj : j < len) : (Lit.int k (zs.getD j 0)).wf = true := by
  have hl := h.length
  rw [List.getD_eq_getElem?_getD, List.getElem?_eq_getElem (by omega)]
  exact h.wf _ (List.getElem_mem _)

theorem and_mask16 (n : Int) : bits .and .i64 n 65535 = n % 65536 := by
  have h1 : (BitVec.ofInt 64 65535).toNat = 2 ^ 16 - 1 := by decide
  have key : (BitVec.ofInt 64 n &&& BitVec.ofInt 64 65535).toNat = (n % ((2 ^ 64 : Nat) : Int)).toNat % 2 ^ 16 := by
    rw [BitVec.toNat_and, BitVec.toNat_ofInt, h1, Nat.and_two_pow_sub_one_eq_mod]
  show IntKind.i64.wrap ((BitVec.ofInt 64 n &&& BitVec.ofInt 64 65535).toNat : Nat) = n % 65536
  rw [key, IntKind.wrap_i64]
  omega
theorem and_mask5 (n : Int) : bits .and .i64 n 31 = n % 32 := by
  have h1 : (BitVec.ofInt 64 31).toNat = 2 ^ 5 - 1 := by decide
  have key : (BitVec.ofInt 64 n &&& BitVec.ofInt 64 31).toNat = (n % ((2 ^ 64 : Nat) : Int)).toNat % 2 ^ 5 := by
    rw [BitVec.toNat_and, BitVec.toNat_ofInt, h1, Nat.and_two_pow_sub_one_eq_mod]
  show IntKind.i64.wrap ((BitVec.ofInt 64 n &&& BitVec.ofInt 64 31).toNat : Nat) = n % 32
  rw [key, IntKind.wrap_i64]
  omega
end Go.Proofs.YtgiegkacilfofabDoor
