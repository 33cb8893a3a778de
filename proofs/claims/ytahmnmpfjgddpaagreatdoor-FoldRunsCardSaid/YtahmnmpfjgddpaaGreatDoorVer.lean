/- The texts VerMap, Chan, VerA, VerB, VerC, VerP, VerD, VerE in one. -/
import Derived.Test.YtahmnmpfjgddpaaGreatDoorRow
import Derived.Maps.OwnSet
import Derived.Test.YtahmnmpfjgddpaaGreatDoorOrd
import Derived.WalkKit
import Derived.Conc.LoneSelect
import Derived.Test.YtahmnmpfjgddpaaGreatDoorFn
import Derived.Test.YtahmnmpfjgddpaaGreatDoorSorts
import Derived.BigQuiet
import Derived.Deep.CutBlock
import Derived.RegionTactic
import Derived.ChangeAlike
import Derived.Deep.LoopGhost
namespace Go.Proofs.YtahmnmpfjgddpaaGreatDoor
set_option linter.unusedVariables false
set_option linter.unusedSimpArgs false
open Go.RowKit Go.Maps

/-- an element is told by itself -/
def selfE (v : Value) : Option (DataW Value × List MemPlace) := some (.held v, [])
/-- block b is the map M (of at most n entries) -/
def VMap (w : World) (b n : Nat) (M : Int → Option Int) : Prop :=
  ∃ D : DataW Value, w.ownsMap Tryz.prog 3 selfE b n D ∧ ∀ k, (Lit.int .i64 k).wf = true → Maps.has D (.int .i64 k) = (M k).isSome ∧ D.atKey (.int .i64 k) (.held (.int .i64 0)) = .held (.int .i64 ((M k).getD 0))

theorem vlawK : Keyed Tryz.prog 3 := int_keyed Tryz.underlying3
theorem visKey (k : Int) : WideAt.IsKeyLit (.int .i64 k) := by first | exact trivial | constructor | simp [WideAt.IsKeyLit]
theorem VMap.made (w : World) : VMap (w.alloc (.map #[] 0)) w.heap.size 0 (fun _ => none) := ⟨.map [], World.ownsMap_made _ _ _ _, fun k _ => ⟨rfl, rfl⟩⟩
theorem VMap.lt {w : World} {b n : Nat} {M : Int → Option Int} (h : VMap w b n M) : b < w.heap.size := by obtain ⟨D, h, _⟩ := h; exact h.lt
theorem VMap.kept {w w' : World} {T : Nat → Prop} {b n : Nat} {M : Int → Option Int} (h : VMap w b n M) (hc : Chg T w w') (hn : ¬ T b) : VMap w' b n M := by
  obtain ⟨D, ⟨es, clock, hb, r⟩, hM⟩ := h
  exact ⟨D, ⟨es, clock, hc.heap hb hn, r⟩, hM⟩
theorem VMap.mono {w : World} {b n n' : Nat} {M : Int → Option Int} (h : VMap w b n M) (hn : n ≤ n') : VMap w b n' M := by
  obtain ⟨D, h, hM⟩ := h
  exact ⟨D, h.mono hn, hM⟩
theorem VMap.heap {w w' : World} {b n : Nat} {M : Int → Option Int} (h : VMap w b n M) (e : w'.heap = w.heap) : VMap w' b n M := by
  obtain ⟨D, ⟨es, clock, hb, r⟩, hM⟩ := h
  exact ⟨D, ⟨es, clock, by rw [e]; exact hb, r⟩, hM⟩
theorem zeroI (w : World) : (zeroValue 3).run Tryz.prog w = .ok (.int .i64 0) w := by kernel_rfl
set_option maxRecDepth 100000 in
theorem VMap.look_ok {w : World} {b n : Nat} {M : Int → Option Int} (h : VMap w b n M) (k : Int) (hk : (Lit.int .i64 k).wf = true) :
    (Instr.lookup 87 (.map (some b)) (.int .i64 k) true).run Tryz.prog w = .ok (.tuple #[.int .i64 ((M k).getD 0), .bool (M k).isSome]) w := by
  obtain ⟨D, h, hM⟩ := h
  obtain ⟨v, ps, hrun, hv⟩ := h.look_ok vlawK Tryz.underlying87 (zeroI w) (zd := .held (.int .i64 0)) (zp := []) rfl (keyOf_int_mk Tryz.underlying3 hk)
  obtain ⟨h1, h2⟩ := hM k hk
  rw [h2] at hv
  rw [h1] at hrun
  injection hv with hv
  injection hv with hv _
  injection hv with hv
  rw [hv] at hrun
  exact hrun
set_option maxRecDepth 100000 in
theorem VMap.look {w : World} {b n : Nat} {M : Int → Option Int} (h : VMap w b n M) (k : Int) (hk : (Lit.int .i64 k).wf = true) :
    (Instr.lookup 87 (.map (some b)) (.int .i64 k) false).run Tryz.prog w = .ok (.int .i64 ((M k).getD 0)) w := by
  obtain ⟨D, h, hM⟩ := h
  obtain ⟨v, ps, hrun, hv⟩ := h.lookup vlawK Tryz.underlying87 (zeroI w) (zd := .held (.int .i64 0)) (zp := []) rfl (keyOf_int_mk Tryz.underlying3 hk)
  obtain ⟨h1, h2⟩ := hM k hk
  rw [h2] at hv
  injection hv with hv
  injection hv with hv _
  injection hv with hv
  rw [hv] at hrun
  exact hrun
set_option maxRecDepth 100000 in
theorem VMap.store {w : World} {b n : Nat} {M : Int → Option Int} (h : VMap w b n M) (k : Int) (hk : (Lit.int .i64 k).wf = true) (v : Int) (hn : n < maxLen) :
    ∃ w', (Instr.mapUpdate 87 (.map (some b)) (.int .i64 k) (.int .i64 v)).run Tryz.prog w = .ok () w' ∧ VMap w' b (n + 1) (fun x => if x = k then some v else M x) ∧ Chg (fun x => x = b) w w' := by
  obtain ⟨D, h, hM⟩ := h
  have hm := h.isMap
  obtain ⟨w', hrun, h', ht⟩ := h.store vlawK Tryz.underlying87 hn (keyOf_int_mk Tryz.underlying3 hk) (val := .int .i64 v) (d := .held (.int .i64 v)) (ps := []) rfl
  refine ⟨w', hrun, ⟨_, h', fun x hx => ?_⟩, (Chg.of_grown ht.grown).mono (fun i _ e => by injection e with e; exact e.symm)⟩
  by_cases e : x = k
  · subst e
    simp only [if_true]
    exact ⟨Maps.has_put_same hm (visKey _) _, Maps.atKey_put_same hm (visKey _) _ _⟩
  · simp only [if_neg e]
    have hne : (Lit.int .i64 x : Lit) ≠ .int .i64 k := fun h => e (by injection h)
    rw [Maps.has_put_other hne, Maps.atKey_put_other hne]
    exact hM x hx
end Go.Proofs.YtahmnmpfjgddpaaGreatDoor
namespace Go.Proofs.YtahmnmpfjgddpaaGreatDoor
set_option linter.unusedVariables false
set_option linter.unusedSimpArgs false
open Go.Conc

/-- 'wp' in a frame of an ordinary call -/
def wpn (P : Program) (c : Code) (Q : Exit → Act → World → Prop) (a : Act) (w : World) : Prop :=
  ∀ (b : Frame), b.kind = .normal → ∀ (k : List Item) (cs : List Frame), ∃ e a' w', Q e a' w' ∧ Arrives P (lone (b.at a (.code c :: k)) cs w) b k cs e a' w'
def opsn (P : Program) (ops : Array Oper) (Q : Exit → Act → World → Prop) (l : List Nat) (a : Act) (w : World) : Prop :=
  ∀ (b : Frame), b.kind = .normal → ∀ (k : List Item) (cs : List Frame), ∃ e a' w', Q e a' w' ∧ Arrives P (lone (b.at a (.inRegion ops l :: k)) cs w) b k cs e a' w'

section
variable {P : Program} {Q : Exit → Act → World → Prop} {a : Act} {w : World} {ops : Array Oper}
theorem wpn_of_wp {c : Code} (h : c.wp P Q a w) : wpn P c Q a w := fun b _ k cs => h b k cs
theorem opsn_of_wp {l : List Nat} (h : wpOps P ops Q l a w) : opsn P ops Q l a w := fun b _ k cs => wp_ops l a w h b k cs
theorem wpn_seq {x y : Code} (h : wpn P x (Exit.then (wpn P y Q) Q) a w) : wpn P (Code.seq x y) Q a w := by
  intro b hb k cs
  obtain ⟨e, a₁, w₁, hq, harr⟩ := h b hb (.code y :: k) cs
  cases e with
  | normal =>
    obtain ⟨e₂, a₂, w₂, hq₂, harr₂⟩ := hq b hb k cs
    exact ⟨e₂, a₂, w₂, hq₂, .of_steps (.head step_seq harr) harr₂⟩
  | exit id => exact ⟨_, a₁, w₁, hq, .of_steps (.one step_seq) (.pass (x := .code y) rfl (fun _ _ => .inl (by simp)) harr)⟩
  | goto l => exact ⟨_, a₁, w₁, hq, .of_steps (.one step_seq) (.pass (x := .code y) rfl (fun _ _ => .inl (by simp)) harr)⟩
  | ret => exact ⟨_, a₁, w₁, hq, .of_steps (.one step_seq) (.pass (x := .code y) rfl (fun _ _ => .inl (by simp)) harr)⟩
  | panic ch => exact ⟨_, a₁, w₁, hq, .of_steps (.one step_seq) (.pass (x := .code y) rfl (fun _ _ => .inl (by simp)) harr)⟩
  | outgrown => exact ⟨_, a₁, w₁, hq, .of_steps (.one step_seq) (.pass (x := .code y) rfl (fun _ _ => .inl (by simp)) harr)⟩
/-- the first part is walked by the kit's words, the second one in 'wpn' -/
theorem wpn_seq_k {x y : Code} (h : ∀ K : Act → World → Prop, (∀ a w, wpn P y Q a w → K a w) → x.wp P (Exit.then K Q) a w) : wpn P (Code.seq x y) Q a w :=
  wpn_seq (wpn_of_wp (h _ fun _ _ h => h))
theorem wpn_mono {c : Code} {Q' : Exit → Act → World → Prop} (h : wpn P c Q a w) (hq : ∀ e a w, Q e a w → Q' e a w) : wpn P c Q' a w :=
  fun b hb k cs => let ⟨e, a', w', q, r⟩ := h b hb k cs; ⟨e, a', w', hq _ _ _ q, r⟩
theorem wpn_cond {c : Operand} {x y : Code} {t : Bool} (hc : a.eval c = .bool t) (h : wpn P (if t then x else y) Q a w) : wpn P (Code.cond c x y) Q a w :=
  fun b hb k cs => let ⟨e, a', w', q, r⟩ := h b hb k cs; ⟨e, a', w', q, .of_steps (.one (step_cond hc)) r⟩
theorem wpn_block {id : Nat} {c : Code} (h : wpn P c (Exit.inBlock id Q) a w) : wpn P (Code.block id c) Q a w := by
  intro b hb k cs
  obtain ⟨e, a₁, w₁, hq, harr⟩ := h b hb (.inBlock id :: k) cs
  cases e with
  | normal => exact ⟨.normal, a₁, w₁, hq, .head step_block (Steps.trans harr (.one step_inBlock))⟩
  | exit id' =>
    by_cases hid : id' = id
    · simp only [Exit.inBlock, hid, if_true] at hq
      exact ⟨.normal, a₁, w₁, hq, .head step_block (harr k (by simp [exitTo, hid]))⟩
    · simp only [Exit.inBlock, hid, if_false] at hq
      refine ⟨.exit id', a₁, w₁, hq, fun k' hk => .head step_block (harr k' ?_)⟩
      have : (id == id') = false := by simp; exact fun h => hid h.symm
      simp [exitTo, this, hk]
  | goto l => exact ⟨_, a₁, w₁, hq, fun k' hk => .head step_block (harr k' (by simp [gotoIn, hk]))⟩
  | ret => exact ⟨_, a₁, w₁, hq, .of_steps (.one step_block) harr⟩
  | panic ch => exact ⟨_, a₁, w₁, hq, .of_steps (.one step_block) harr⟩
  | outgrown => exact ⟨_, a₁, w₁, hq, .of_steps (b := b) (k := k) (cs := cs) (e := .outgrown) (.one step_block) harr⟩
theorem wpn_loop {c : Code} (I : Nat → Act → World → Prop) (n : Nat) (h₀ : I n a w)
    (round : ∀ n a w, I n a w → wpn P c (Exit.then (fun a' w' => ∃ m, m < n ∧ I m a' w') Q) a w) : wpn P (Code.loop c) Q a w := by
  intro b hb k cs
  have key : ∀ n a w, I n a w →
      ∃ e a' w', Q e a' w' ∧ Arrives P (lone (b.at a (.code c :: .inLoop c :: k)) cs w) b k cs e a' w' := by
    intro n
    induction n using Nat.strongRecOn with
    | _ n ih =>
      intro a w hI
      obtain ⟨e, a₁, w₁, hq, harr⟩ := round n a w hI b hb (.inLoop c :: k) cs
      cases e with
      | normal =>
        obtain ⟨m, hlt, hI₁⟩ := hq
        obtain ⟨e₂, a₂, w₂, hq₂, harr₂⟩ := ih m hlt a₁ w₁ hI₁
        exact ⟨e₂, a₂, w₂, hq₂, .of_steps (Steps.trans harr (.one step_inLoop)) harr₂⟩
      | exit id => exact ⟨_, a₁, w₁, hq, .pass (x := .inLoop c) rfl (fun _ _ => .inl (by simp)) harr⟩
      | goto l => exact ⟨_, a₁, w₁, hq, .pass (x := .inLoop c) rfl (fun _ _ => .inl (by simp)) harr⟩
      | ret => exact ⟨_, a₁, w₁, hq, .pass (x := .inLoop c) rfl (fun _ _ => .inl (by simp)) harr⟩
      | panic ch => exact ⟨_, a₁, w₁, hq, .pass (x := .inLoop c) rfl (fun _ _ => .inl (by simp)) harr⟩
      | outgrown => exact ⟨_, a₁, w₁, hq, .pass (x := .inLoop c) rfl (fun _ _ => .inl (by simp)) harr⟩
  obtain ⟨e, a', w', hq, harr⟩ := key n a w h₀
  exact ⟨e, a', w', hq, .of_steps (.one step_loop) harr⟩
theorem wpn_region {id : Nat} (h : opsn P ops Q (List.range ops.size) a w) : wpn P (Code.region id ops false) Q a w :=
  fun b hb k cs => let ⟨e, a', w', q, r⟩ := h b hb k cs; ⟨e, a', w', q, .of_steps (.one step_region) r⟩
theorem wpn_region_draw {id : Nat} (h : ∀ t, opsn P ops Q (Region.schedule (P.follows .mixedOrders) ops t) a w.drew) : wpn P (Code.region id ops true) Q a w :=
  fun b hb k cs => let ⟨e, a', w', q, r⟩ := h _ b hb k cs; ⟨e, a', w', q, .of_steps (.one step_region_draw) r⟩

theorem opsn_end (h : Q .normal a w) : opsn P ops Q [] a w := fun b _ k cs => ⟨.normal, a, w, h, .one step_region_end⟩
/-- an operation that yields a value -/
theorem opsn_val {i : Nat} {rest : List Nat} {o : Oper} {v : Value} {w' : World} (ho : nth ops.toList i = some o) (hw : Region.wanted o (yielded ops a.tmps) = true)
    (hr : (execOp a.eval o).run P w = .ok (.value v) w') (h : opsn P ops Q rest (a.put o.dst v) w') : opsn P ops Q (i :: rest) a w := by
  intro b hb k cs
  obtain ⟨e, a', w₂, hq, harr⟩ := h b hb k cs
  have ho := ops_of_nth ho
  refine ⟨e, a', w₂, hq, .of_steps (.one (step_lone_go ?_)) harr⟩
  have hfin : (b.at a (.inRegion ops (i :: rest) :: k)).finish v = b.at (a.put o.dst v) (.inRegion ops rest :: k) := by rw [Frame.finish_at, ho]; rfl
  rw [stepG_op ho hw, ← hfin]
  simp [stepG.apply, hr]
/-- one that only looks -/
theorem opsn_look {i : Nat} {rest : List Nat} {o : Oper} {v : Value} (ho : nth ops.toList i = some o) (hw : Region.wanted o (yielded ops a.tmps) = true)
    (hr : (execOp a.eval o).run P w = .ok (.value v) w) (h : opsn P ops Q rest (a.put o.dst v) w) : opsn P ops Q (i :: rest) a w := opsn_val ho hw hr h
/-- a step of the machine that hands the operation a value -/
theorem opsn_step {i : Nat} {rest : List Nat} {o : Oper} {v : Value} {w' : World} (ho : nth ops.toList i = some o)
    (hs : ∀ (b : Frame), b.kind = .normal → ∀ k cs, step P (solo (G (b.at a (.inRegion ops (i :: rest) :: k)) cs) w) = .next (solo (G ((b.at a (.inRegion ops (i :: rest) :: k)).finish v) cs) w'))
    (h : opsn P ops Q rest (a.put o.dst v) w') : opsn P ops Q (i :: rest) a w := by
  intro b hb k cs
  obtain ⟨e, a', w₂, hq, harr⟩ := h b hb k cs
  have ho := ops_of_nth ho
  refine ⟨e, a', w₂, hq, .of_steps (.one ?_) harr⟩
  have hfin : (b.at a (.inRegion ops (i :: rest) :: k)).finish v = b.at (a.put o.dst v) (.inRegion ops rest :: k) := by rw [Frame.finish_at, ho]; rfl
  rw [← hfin, lone_eq_solo, lone_eq_solo]
  exact hs b hb k cs
/-- a send with room -/
theorem opsn_send {i : Nat} {rest : List Nat} {o : Oper} {c cap s r : Nat} {buf : Array Value} {v z : Value} {w₁ : World} (ho : nth ops.toList i = some o) (hw : Region.wanted o (yielded ops a.tmps) = true)
    (hr : (execOp a.eval o).run P w = .ok (.comm #[scase c v z] true .send) w₁) (hc : w₁.heap[c]? = some (.chan cap buf false s r false)) (hroom : buf.size < cap)
    (h : opsn P ops Q rest (a.put o.dst undef) (w₁.setChan c cap (buf.push v) false (s + 1) r false)) : opsn P ops Q (i :: rest) a w :=
  opsn_step ho (fun b hb k cs => step_lone_send_room (stepG_comm (ops_of_nth ho) hw (by rw [hb]; decide) hr) hc hroom) h
/-- a select of one receive with a default: something lies there -/
theorem opsn_sel_buf {i : Nat} {rest : List Nat} {o : Oper} {c cap s r : Nat} {buf : Array Value} {z : Value} {w₁ : World} (ho : nth ops.toList i = some o) (hw : Region.wanted o (yielded ops a.tmps) = true)
    (hr : (execOp a.eval o).run P w = .ok (.comm #[rcase c z] false .select) w₁) (hc : w₁.heap[c]? = some (.chan cap buf false s r false)) (hsome : 0 < buf.size)
    (h : opsn P ops Q rest (a.put o.dst (.tuple #[goInt 0, .bool true, buf.getD 0 undef])) (w₁.setChan c cap (buf.extract 1 buf.size) false s (r + 1) false)) : opsn P ops Q (i :: rest) a w :=
  opsn_step ho (fun b hb k cs => step_lone_select_recv_buf (stepG_comm (ops_of_nth ho) hw (by rw [hb]; decide) hr) hc hsome) h
/-- .. nothing does: the default -/
theorem opsn_sel_none {i : Nat} {rest : List Nat} {o : Oper} {c cap s r : Nat} {z : Value} {w₁ : World} (ho : nth ops.toList i = some o) (hw : Region.wanted o (yielded ops a.tmps) = true)
    (hr : (execOp a.eval o).run P w = .ok (.comm #[rcase c z] false .select) w₁) (hc : w₁.heap[c]? = some (.chan cap #[] false s r false))
    (h : opsn P ops Q rest (a.put o.dst (.tuple #[goInt (-1), .bool false, z])) w₁) : opsn P ops Q (i :: rest) a w :=
  opsn_step ho (fun b hb k cs => step_lone_select_default (stepG_comm (ops_of_nth ho) hw (by rw [hb]; decide) hr) hc) h
end

theorem calls_of_wpn {P : Program} {f : FuncId} {fn : Func} {c : Code} {args : Array Value} {w : World} {R : Ending → World → Prop}
    (hf : P.funcs[f]? = some fn) (hb : fn.body = some c)
    (h : wpn P c (bodyPost P fn R) { tmps := args ++ Array.replicate (fn.ntmps - args.size) undef, defers := [] } w) :
    Calls P f args w R := by
  intro cs
  let b : Frame := { (default : Frame) with fn := f, kind := .normal }
  have henter : Frame.enter P f args .normal =
      b.at { tmps := args ++ Array.replicate (fn.ntmps - args.size) undef, defers := [] } [.code c] := by
    simp [Frame.enter, Frame.at, hf, hb, b]
  obtain ⟨e, a', w', hq, harr⟩ := h b rfl [] cs
  rw [← henter] at harr
  cases e with
  | normal =>
    obtain ⟨hd, v, hr, hR⟩ := hq
    exact ⟨.returned v, w', _, hR, Steps.trans harr (.one step_end), rfl, rfl, hd, rfl, fn, hf, hr⟩
  | ret =>
    obtain ⟨hd, v, hr, hR⟩ := hq
    obtain ⟨todo, hs⟩ := harr
    exact ⟨.returned v, w', _, hR, hs, rfl, rfl, hd, rfl, fn, hf, hr⟩
  | panic chain =>
    obtain ⟨hd, hR⟩ := hq
    obtain ⟨todo, hs⟩ := harr
    exact ⟨.panicked chain, w', _, hR, hs, rfl, rfl, hd, fn, hf⟩
  | exit id => exact hq.elim
  | goto l => exact hq.elim
  | outgrown => exact ⟨.outgrown, w', b, hq, harr.resolve_left (by simp [b]), rfl, trivial⟩
end Go.Proofs.YtahmnmpfjgddpaaGreatDoor
namespace Go.Proofs.YtahmnmpfjgddpaaGreatDoor
set_option linter.unusedVariables false
set_option linter.unusedSimpArgs false
open Go.RowKit

/-- the row of functions fs, at V -/
def FnsIs (w : World) (V : Value) (fs : List FnR) : Prop :=
  (fs = [] ∧ ∃ A c, V = .slice A 0 c) ∨ ∃ b off cap, V = .slice (some ⟨b, off, none⟩) fs.length cap ∧ b < w.heap.size ∧ fs.length ≤ cap ∧ cap ≤ maxLen ∧ ∀ (j : Nat) f, fs[j]? = some f →
    ∃ A c, (w.cell? ⟨b, off + j * 5, none⟩ = some (.string f.nm) ∧ w.cell? ⟨b, off + j * 5 + 1, none⟩ = some (.int .i64 f.ps) ∧ w.cell? ⟨b, off + j * 5 + 2, none⟩ = some (.int .i64 f.vs) ∧ w.cell? ⟨b, off + j * 5 + 3, none⟩ = some (.int .i64 f.ar) ∧ w.cell? ⟨b, off + j * 5 + 4, none⟩ = some (.slice A f.l.length c)) ∧ Src w (.slice A f.l.length c) f.l.length (insCells f.l)
theorem FnsIs.keep {w w' : World} {V : Value} {fs : List FnR} (h : FnsIs w V fs) (hb : Below w.heap.size w w') : FnsIs w' V fs := by
  rcases h with h | ⟨b, off, cap, e, h1, h2, h3, h4⟩
  · exact .inl h
  · refine .inr ⟨b, off, cap, e, Nat.lt_of_lt_of_le h1 hb.size, h2, h3, fun j f hf => ?_⟩
    obtain ⟨A, c, ⟨c0, c1, c2, c3, c4⟩, hs⟩ := h4 j f hf
    have hc := Below.chg hb
    exact ⟨A, c, ⟨hc.cell c0 (fun x => x), hc.cell c1 (fun x => x), hc.cell c2 (fun x => x), hc.cell c3 (fun x => x), hc.cell c4 (fun x => x)⟩, hs.keepB hb⟩
theorem FnsIs.bound {w : World} {V : Value} {fs : List FnR} (h : FnsIs w V fs) : fs.length ≤ maxLen ∧ ∃ A c, V = .slice A fs.length c := by
  rcases h with ⟨rfl, A, c, rfl⟩ | ⟨b, off, cap, rfl, _, h2, h3, _⟩
  · exact ⟨by simp [maxLen], A, c, rfl⟩
  · exact ⟨by omega, _, _, rfl⟩
theorem FnsIs.get {w : World} {V : Value} {fs : List FnR} (h : FnsIs w V fs) (j : Nat) (hj : j < fs.length) : ∃ b off cap A c, V = .slice (some ⟨b, off, none⟩) fs.length cap ∧ b < w.heap.size ∧ fs.length ≤ cap ∧
    (w.cell? ⟨b, off + j * 5, none⟩ = some (.string fs[j].nm) ∧ w.cell? ⟨b, off + j * 5 + 1, none⟩ = some (.int .i64 fs[j].ps) ∧ w.cell? ⟨b, off + j * 5 + 2, none⟩ = some (.int .i64 fs[j].vs) ∧ w.cell? ⟨b, off + j * 5 + 3, none⟩ = some (.int .i64 fs[j].ar) ∧ w.cell? ⟨b, off + j * 5 + 4, none⟩ = some (.slice A fs[j].l.length c)) ∧ Src w (.slice A fs[j].l.length c) fs[j].l.length (insCells fs[j].l) := by
  rcases h with ⟨rfl, _⟩ | ⟨b, off, cap, e, h1, h2, h3, h4⟩
  · simp at hj
  · obtain ⟨A, c, hc, hs⟩ := h4 j fs[j] (List.getElem?_eq_getElem hj)
    exact ⟨b, off, cap, A, c, e, h1, h2, hc, hs⟩

/-! ### small functions -/
theorem known_any (op : Int) (w : World) : Calls Tryz.prog 70 #[.int .i64 op] w fun e w' => e = .returned (.bool (decide (1 ≤ op ∧ op ≤ 25))) ∧ w' = w := by
  by_cases h1 : 1 ≤ op
  · by_cases h2 : op ≤ 25
    · rw [decide_eq_true ⟨h1, h2⟩]
      go_enter Tryz.func70, Tryz.ntmps70
      go_wp2_with fail
      go_ret
      exact ⟨rfl, rfl⟩
    · rw [decide_eq_false (fun h => h2 h.2)]
      have h2' : decide (op ≤ 25) = false := decide_eq_false h2
      go_enter Tryz.func70, Tryz.ntmps70
      go_wp2_with fail
      go_ret
      exact ⟨rfl, rfl⟩
  · rw [decide_eq_false (fun h => h1 h.1)]
    have h1' : decide (1 ≤ op) = false := decide_eq_false h1
    go_enter Tryz.func70, Tryz.ntmps70
    go_wp2_with fail
    go_ret
    exact ⟨rfl, rfl⟩
theorem in_any (n a b : Int) (w : World) : Calls Tryz.prog 19 #[.int .i64 n, .int .i64 a, .int .i64 b] w fun e w' => e = .returned (.bool (decide (a ≤ n ∧ n < b))) ∧ w' = w := by
  by_cases h1 : a ≤ n
  · by_cases h2 : n < b
    · rw [decide_eq_true ⟨h1, h2⟩]
      go_enter Tryz.func19, Tryz.ntmps19
      go_wp2_with fail
      go_ret
      exact ⟨rfl, rfl⟩
    · rw [decide_eq_false (fun h => h2 h.2)]
      have h2' : decide (n < b) = false := decide_eq_false h2
      go_enter Tryz.func19, Tryz.ntmps19
      go_wp2_with fail
      go_ret
      exact ⟨rfl, rfl⟩
  · rw [decide_eq_false (fun h => h1 h.1)]
    have h1' : decide (a ≤ n) = false := decide_eq_false h1
    go_enter Tryz.func19, Tryz.ntmps19
    go_wp2_with fail
    go_ret
    exact ⟨rfl, rfl⟩
def sortAt (op : Int) : SortR := sorts.getD op.toNat ⟨ByteArray.empty, 0, 0, 0, 0⟩
def takesv (op : Int) : Int := (sortAt op).takes
def leavesv (op : Int) : Int := (sortAt op).leaves
def costv (op : Int) : Int := 1 + (sortAt op).more
theorem sortAt_some {op : Int} (h : 1 ≤ op ∧ op ≤ 25) : sorts[op.toNat]? = some (sortAt op) := by
  have hl : op.toNat < sorts.length := by have : sorts.length = 26 := rfl; omega
  unfold sortAt
  rw [List.getD_eq_getElem?_getD, List.getElem?_eq_getElem hl]
  rfl
theorem sort_all {p : SortR → Prop} [DecidablePred p] (h : ∀ i, i < 26 → p (sorts.getD i ⟨ByteArray.empty, 0, 0, 0, 0⟩)) {op : Int} (ho : 1 ≤ op ∧ op ≤ 25) : p (sortAt op) := h _ (by omega)
theorem takes_small {op : Int} (ho : 1 ≤ op ∧ op ≤ 25) : 0 ≤ takesv op ∧ takesv op ≤ 2 := sort_all (p := fun s => 0 ≤ s.takes ∧ s.takes ≤ 2) (by decide) ho
theorem leaves_small {op : Int} (ho : 1 ≤ op ∧ op ≤ 25) : 0 ≤ leavesv op ∧ leavesv op ≤ 1 := sort_all (p := fun s => 0 ≤ s.leaves ∧ s.leaves ≤ 1) (by decide) ho
theorem cost_small {op : Int} (ho : 1 ≤ op ∧ op ≤ 25) : 1 ≤ costv op ∧ costv op ≤ 20 := by
  have h : ∀ i, i < 26 → 1 ≤ i → 0 ≤ (sorts.getD i ⟨ByteArray.empty, 0, 0, 0, 0⟩).more ∧ (sorts.getD i ⟨ByteArray.empty, 0, 0, 0, 0⟩).more ≤ 19 := by decide
  have := h op.toNat (by omega) (by omega)
  unfold costv sortAt
  omega
theorem sort_f1 (nm : ByteArray) (tk lv mo ha : Int) (w : World) : (Instr.field 111 (.agg #[.string nm, .int .i64 tk, .int .i64 lv, .int .i64 mo, .int .i64 ha]) 1).run Tryz.prog w = .ok (.int .i64 tk) w := by kernel_rfl
theorem sort_f2 (nm : ByteArray) (tk lv mo ha : Int) (w : World) : (Instr.field 111 (.agg #[.string nm, .int .i64 tk, .int .i64 lv, .int .i64 mo, .int .i64 ha]) 2).run Tryz.prog w = .ok (.int .i64 lv) w := by kernel_rfl
theorem sort_f3 (nm : ByteArray) (tk lv mo ha : Int) (w : World) : (Instr.field 111 (.agg #[.string nm, .int .i64 tk, .int .i64 lv, .int .i64 mo, .int .i64 ha]) 3).run Tryz.prog w = .ok (.int .i64 mo) w := by kernel_rfl
set_option maxRecDepth 100000 in
theorem takes_any {w : World} (h : SortsIs w) (op : Int) (ho : 1 ≤ op ∧ op ≤ 25) : Calls Tryz.prog 54 #[.int .i64 op] w fun e w' => e = .returned (.int .i64 (takesv op)) ∧ Below w.heap.size w w' := by
  have C := Lib.hid (of_any h op.toNat (sortAt op) (by omega) (sortAt_some ho))
  rw [show ((op.toNat : Nat) : Int) = op by omega] at C
  unfold takesv
  generalize sortAt op = s at *
  obtain ⟨nm, tk, lv, mo, ha⟩ := s
  simp only at C
  clear h
  go_enter Tryz.func54, Tryz.ntmps54
  go_wp2_with fail
  refine C.out.mono ?_; rintro e w1 ⟨rfl, hb⟩
  have HB := Lib.hid hb
  clear hb
  have hf := sort_f1 nm tk lv mo ha w1
  go_wp2_with fail
  go_ret
  exact ⟨by rfl, HB.out⟩
set_option maxRecDepth 100000 in
theorem leaves_any {w : World} (h : SortsIs w) (op : Int) (ho : 1 ≤ op ∧ op ≤ 25) : Calls Tryz.prog 55 #[.int .i64 op] w fun e w' => e = .returned (.int .i64 (leavesv op)) ∧ Below w.heap.size w w' := by
  have C := Lib.hid (of_any h op.toNat (sortAt op) (by omega) (sortAt_some ho))
  rw [show ((op.toNat : Nat) : Int) = op by omega] at C
  unfold leavesv
  generalize sortAt op = s at *
  obtain ⟨nm, tk, lv, mo, ha⟩ := s
  simp only at C
  clear h
  go_enter Tryz.func55, Tryz.ntmps55
  go_wp2_with fail
  refine C.out.mono ?_; rintro e w1 ⟨rfl, hb⟩
  have HB := Lib.hid hb
  clear hb
  have hf := sort_f2 nm tk lv mo ha w1
  go_wp2_with fail
  go_ret
  exact ⟨by rfl, HB.out⟩
set_option maxRecDepth 100000 in
theorem cost_any {w : World} (h : SortsIs w) (op : Int) (ho : 1 ≤ op ∧ op ≤ 25) : Calls Tryz.prog 35 #[.int .i64 op] w fun e w' => e = .returned (.int .i64 (costv op)) ∧ Below w.heap.size w w' := by
  have C := Lib.hid (of_any h op.toNat (sortAt op) (by omega) (sortAt_some ho))
  rw [show ((op.toNat : Nat) : Int) = op by omega] at C
  have hc := cost_small ho
  unfold costv at hc ⊢
  generalize sortAt op = s at *
  obtain ⟨nm, tk, lv, mo, ha⟩ := s
  simp only at C
  clear h
  go_enter Tryz.func35, Tryz.ntmps35
  go_wp2_with fail
  refine C.out.mono ?_; rintro e w1 ⟨rfl, hb⟩
  have HB := Lib.hid hb
  clear hb
  have hf := sort_f3 nm tk lv mo ha w1
  go_wp2_with fail
  go_ret
  exact ⟨by first | rfl | (simp only at hc ⊢; congr 2; go_num) | (congr 2; go_num), HB.out⟩

/-! ### operands -/
/-- the operands of an instruction are right -/
def opOk (k : Nat) (f : FnR) (i : InsR) : Bool :=
  if i.op = 2 ∨ i.op = 3 then decide (0 ≤ i.a ∧ i.a < f.vs)
  else if i.op = 21 then decide (0 ≤ i.a ∧ i.a < f.vs) && decide (i.n = 0 ∨ i.n = 1)
  else if i.op = 23 ∨ i.op = 24 then decide (0 ≤ i.a ∧ i.a < f.ar)
  else if i.op = 22 then decide (0 ≤ i.a ∧ i.a < f.ar) && decide (1 ≤ i.n ∧ i.n ≤ 4096)
  else if i.op = 17 then decide (1 ≤ i.a ∧ i.a < (k : Int))
  else decide (1 ≤ i.op ∧ i.op ≤ 25)
theorem opOk_known {k : Nat} {f : FnR} {i : InsR} (h : opOk k f i = true) : 1 ≤ i.op ∧ i.op ≤ 25 := by
  unfold opOk at h
  split at h
  · omega
  split at h
  · omega
  split at h
  · omega
  split at h
  · omega
  split at h
  · omega
  · simpa using h

/-- the looker at X -/
def LookBox (w : World) (X : Nat) (k : Nat) (f : FnR) (A : Option Addr) (c : Nat) (B : Option Addr) (d : Nat) (mb cb : Nat) : Prop :=
  w.heap[X]? = some (.cells #[.slice A k c, .string f.nm, .int .i64 f.ps, .int .i64 f.vs, .int .i64 f.ar, .slice B f.l.length d, .map (some mb), .chan (some cb)] 90 (0, 0))

set_option maxHeartbeats 4000000 in
set_option maxRecDepth 100000 in
theorem operands_any {w : World} {X k : Nat} {f : FnR} {A : Option Addr} {c : Nat} {B : Option Addr} {d mb cb : Nat} (h : LookBox w X k f A c B d mb cb) (hk : k ≤ 1048576) (i : InsR) :
    Calls Tryz.prog 53 #[.pointer (some ⟨X, 0, none⟩), i.agg] w fun e w' => e = .returned (.bool (opOk k f i)) ∧ Below w.heap.size w w' := by
  have hXl : X < w.heap.size := lt_of_heap h
  have CI := Lib.hid (fun (n a b : Int) (w : World) => in_any n a b w)
  have CK := Lib.hid (fun (op : Int) (w : World) => known_any op w)
  obtain ⟨op, a, nn⟩ := i
  obtain ⟨r, hr⟩ : ∃ r, r = opOk k f ⟨op, a, nn⟩ := ⟨_, rfl⟩
  rw [← hr]
  unfold InsR.agg
  simp only
  obtain ⟨w0, hw0⟩ : ∃ w0, w0 = w.alloc (.cells #[.int .i64 op, .int .i64 a, .int .i64 nn] 42) := ⟨_, rfl⟩
  obtain ⟨P0, hP0⟩ : ∃ P0, P0 = w.heap.size := ⟨_, rfl⟩
  have hb0 : Below w.heap.size w w0 := by rw [hw0]; exact (Below.refl _ _).alloc (Nat.le_refl _) _
  have HX0 : Hid (LookBox w0 X k f A c B d mb cb) := Lib.hid (by rw [hw0]; exact ((Chg.refl (fun _ => False) _).alloc _).heap h (fun x => x))
  have hi0 : w0.heap[P0]? = some (.cells #[.int .i64 op, .int .i64 a, .int .i64 nn] 42 (0, 0)) := by rw [hw0]; exact heap_new' hP0.symm
  have HB0 := Lib.hid hb0
  have HWE := Lib.hid (And.intro hw0 hP0)
  obtain ⟨nm, ps, vs, ar, l⟩ := f
  have hx := HX0.out
  unfold LookBox at hx
  simp only at hx
  have y0 := cell_of_block hx 0
  have y3 := cell_of_block hx 3
  have y4 := cell_of_block hx 4
  have i0 := cell_of_block hi0 0
  have i1 := cell_of_block hi0 1
  have i2 := cell_of_block hi0 2
  simp at y0 y3 y4 i0 i1 i2
  clear h hw0 hP0 hb0 hx hi0 hXl
  obtain ⟨n, hn⟩ : ∃ n, n = l.length := ⟨_, rfl⟩
  have HBE : Hid (∀ m, Below w.heap.size w (w0.drewN m)) := Lib.hid (fun m => HB0.out.trans (((Chg.refl (fun _ => False) _).drewN m).below (B := w.heap.size) (fun k h => h.elim) HB0.out.size))
  by_cases h2 : op = 2 ∨ op = 3
  · have hr' : r = decide (0 ≤ a ∧ a < vs) := by rw [hr]; unfold opOk; rw [if_pos h2]
    obtain ⟨q, hq⟩ : ∃ q, q = decide (0 ≤ a ∧ a < vs) := ⟨_, rfl⟩
    rw [← hq] at hr'
    subst hr'
    clear hr
    rcases h2 with rfl | rfl
    · go_enter Tryz.func53, Tryz.ntmps53
      go_upto_region 1 with fail
      rw [← HWE.out.1, ← HWE.out.2]
      go_wp2_with fail
      go_quiet ((go_at_call 19; exact Calls.quiet_of_same (CI.out _ _ _ _)))
      go_wp2_with fail
      go_ret
      exact ⟨by rw [hq]; rfl, HBE.out _⟩
    · go_enter Tryz.func53, Tryz.ntmps53
      go_upto_region 1 with fail
      rw [← HWE.out.1, ← HWE.out.2]
      go_wp2_with fail
      go_quiet ((go_at_call 19; exact Calls.quiet_of_same (CI.out _ _ _ _)))
      go_wp2_with fail
      go_ret
      exact ⟨by rw [hq]; rfl, HBE.out _⟩
  by_cases h21 : op = 21
  · have hr' : r = (decide (0 ≤ a ∧ a < vs) && decide (nn = 0 ∨ nn = 1)) := by rw [hr]; unfold opOk; rw [if_neg h2, if_pos h21]
    clear hr
    subst h21
    clear h2
    by_cases hv : 0 ≤ a ∧ a < vs
    · rw [decide_eq_true hv, Bool.true_and] at hr'
      have HV := Lib.hid (decide_eq_true hv)
      clear hv
      have CT : Hid (∀ w, Calls Tryz.prog 19 #[.int .i64 a, .int .i64 0, .int .i64 vs] w fun e w' => e = .returned (.bool true) ∧ w' = w) := Lib.hid (fun w => by have := in_any a 0 vs w; rwa [HV.out] at this)
      by_cases hn0 : nn = 0
      · rw [decide_eq_true (.inl hn0)] at hr'
        subst hr'
        subst hn0
        go_enter Tryz.func53, Tryz.ntmps53
        go_upto_region 1 with fail
        rw [← HWE.out.1, ← HWE.out.2]
        go_wp2_with fail
        go_quiet ((go_at_call 19; exact Calls.quiet_of_same (CT.out _)))
        go_wp2_with fail
        go_ret
        exact ⟨rfl, HBE.out _⟩
      · by_cases hn1 : nn = 1
        · rw [decide_eq_true (.inr hn1)] at hr'
          subst hr'
          subst hn1
          clear hn0
          go_enter Tryz.func53, Tryz.ntmps53
          go_upto_region 1 with fail
          rw [← HWE.out.1, ← HWE.out.2]
          go_wp2_with fail
          go_quiet ((go_at_call 19; exact Calls.quiet_of_same (CT.out _)))
          go_wp2_with fail
          go_ret
          exact ⟨rfl, HBE.out _⟩
        · rw [decide_eq_false (fun h => h.elim hn0 hn1)] at hr'
          subst hr'
          have t0 : (nn == 0) = false := by rw [beq_eq_false_iff_ne]; exact hn0
          have t1 : (nn == 1) = false := by rw [beq_eq_false_iff_ne]; exact hn1
          go_enter Tryz.func53, Tryz.ntmps53
          go_upto_region 1 with fail
          rw [← HWE.out.1, ← HWE.out.2]
          go_wp2_with fail
          go_quiet ((go_at_call 19; exact Calls.quiet_of_same (CT.out _)))
          go_wp2_with fail
          go_ret
          exact ⟨rfl, HBE.out _⟩
    · rw [decide_eq_false hv, Bool.false_and] at hr'
      have HV := Lib.hid (decide_eq_false hv)
      clear hv
      subst hr'
      have CT : Hid (∀ w, Calls Tryz.prog 19 #[.int .i64 a, .int .i64 0, .int .i64 vs] w fun e w' => e = .returned (.bool false) ∧ w' = w) := Lib.hid (fun w => by have := in_any a 0 vs w; rwa [HV.out] at this)
      go_enter Tryz.func53, Tryz.ntmps53
      go_upto_region 1 with fail
      rw [← HWE.out.1, ← HWE.out.2]
      go_wp2_with fail
      go_quiet ((go_at_call 19; exact Calls.quiet_of_same (CT.out _)))
      go_wp2_with fail
      go_ret
      exact ⟨rfl, HBE.out _⟩
  by_cases h23 : op = 23 ∨ op = 24
  · have hr' : r = decide (0 ≤ a ∧ a < ar) := by rw [hr]; unfold opOk; rw [if_neg h2, if_neg h21, if_pos h23]
    obtain ⟨q, hq⟩ : ∃ q, q = decide (0 ≤ a ∧ a < ar) := ⟨_, rfl⟩
    rw [← hq] at hr'
    subst hr'
    clear hr h2 h21
    rcases h23 with rfl | rfl
    · go_enter Tryz.func53, Tryz.ntmps53
      go_upto_region 1 with fail
      rw [← HWE.out.1, ← HWE.out.2]
      go_wp2_with fail
      go_quiet ((go_at_call 19; exact Calls.quiet_of_same (CI.out _ _ _ _)))
      go_wp2_with fail
      go_ret
      exact ⟨by rw [hq]; rfl, HBE.out _⟩
    · go_enter Tryz.func53, Tryz.ntmps53
      go_upto_region 1 with fail
      rw [← HWE.out.1, ← HWE.out.2]
      go_wp2_with fail
      go_quiet ((go_at_call 19; exact Calls.quiet_of_same (CI.out _ _ _ _)))
      go_wp2_with fail
      go_ret
      exact ⟨by rw [hq]; rfl, HBE.out _⟩
  by_cases h22 : op = 22
  · have hr' : r = (decide (0 ≤ a ∧ a < ar) && decide (1 ≤ nn ∧ nn ≤ 4096)) := by rw [hr]; unfold opOk; rw [if_neg h2, if_neg h21, if_neg h23, if_pos h22]
    clear hr
    subst h22
    clear h2 h21 h23
    by_cases hv : 0 ≤ a ∧ a < ar
    · rw [decide_eq_true hv, Bool.true_and] at hr'
      have HV := Lib.hid (decide_eq_true hv)
      clear hv
      have CT : Hid (∀ w, Calls Tryz.prog 19 #[.int .i64 a, .int .i64 0, .int .i64 ar] w fun e w' => e = .returned (.bool true) ∧ w' = w) := Lib.hid (fun w => by have := in_any a 0 ar w; rwa [HV.out] at this)
      by_cases hn0 : 1 ≤ nn
      · by_cases hn1 : nn ≤ 4096
        · rw [decide_eq_true ⟨hn0, hn1⟩] at hr'
          subst hr'
          have t0 : decide (1 ≤ nn) = true := decide_eq_true hn0
          have t1 : decide (nn ≤ 4096) = true := decide_eq_true hn1
          go_enter Tryz.func53, Tryz.ntmps53
          go_upto_region 1 with fail
          rw [← HWE.out.1, ← HWE.out.2]
          go_wp2_with fail
          go_quiet ((go_at_call 19; exact Calls.quiet_of_same (CT.out _)))
          go_wp2_with fail
          go_ret
          exact ⟨rfl, HBE.out _⟩
        · rw [decide_eq_false (fun h => hn1 h.2)] at hr'
          subst hr'
          have t0 : decide (1 ≤ nn) = true := decide_eq_true hn0
          have t1 : decide (nn ≤ 4096) = false := decide_eq_false hn1
          go_enter Tryz.func53, Tryz.ntmps53
          go_upto_region 1 with fail
          rw [← HWE.out.1, ← HWE.out.2]
          go_wp2_with fail
          go_quiet ((go_at_call 19; exact Calls.quiet_of_same (CT.out _)))
          go_wp2_with fail
          go_ret
          exact ⟨rfl, HBE.out _⟩
      · rw [decide_eq_false (fun h => hn0 h.1)] at hr'
        subst hr'
        have t0 : decide (1 ≤ nn) = false := decide_eq_false hn0
        go_enter Tryz.func53, Tryz.ntmps53
        go_upto_region 1 with fail
        rw [← HWE.out.1, ← HWE.out.2]
        go_wp2_with fail
        go_quiet ((go_at_call 19; exact Calls.quiet_of_same (CT.out _)))
        go_wp2_with fail
        go_ret
        exact ⟨rfl, HBE.out _⟩
    · rw [decide_eq_false hv, Bool.false_and] at hr'
      have HV := Lib.hid (decide_eq_false hv)
      clear hv
      subst hr'
      have CT : Hid (∀ w, Calls Tryz.prog 19 #[.int .i64 a, .int .i64 0, .int .i64 ar] w fun e w' => e = .returned (.bool false) ∧ w' = w) := Lib.hid (fun w => by have := in_any a 0 ar w; rwa [HV.out] at this)
      go_enter Tryz.func53, Tryz.ntmps53
      go_upto_region 1 with fail
      rw [← HWE.out.1, ← HWE.out.2]
      go_wp2_with fail
      go_quiet ((go_at_call 19; exact Calls.quiet_of_same (CT.out _)))
      go_wp2_with fail
      go_ret
      exact ⟨rfl, HBE.out _⟩
  by_cases h17 : op = 17
  · have hr' : r = decide (1 ≤ a ∧ a < (k : Int)) := by rw [hr]; unfold opOk; rw [if_neg h2, if_neg h21, if_neg h23, if_neg h22, if_pos h17]
    obtain ⟨q, hq⟩ : ∃ q, q = decide (1 ≤ a ∧ a < (k : Int)) := ⟨_, rfl⟩
    rw [← hq] at hr'
    subst hr'
    clear hr h2 h21 h23 h22
    subst h17
    go_enter Tryz.func53, Tryz.ntmps53
    go_upto_region 1 with fail
    rw [← HWE.out.1, ← HWE.out.2]
    go_wp2_with fail
    go_quiet ((go_at_call 19; exact Calls.quiet_of_same (CI.out _ _ _ _)))
    go_wp2_with fail
    go_ret
    exact ⟨by rw [hq]; rfl, HBE.out _⟩
  have hr' : r = decide (1 ≤ op ∧ op ≤ 25) := by rw [hr]; unfold opOk; rw [if_neg h2, if_neg h21, if_neg h23, if_neg h22, if_neg h17]
  obtain ⟨q, hq⟩ : ∃ q, q = decide (1 ≤ op ∧ op ≤ 25) := ⟨_, rfl⟩
  rw [← hq] at hr'
  subst hr'
  clear hr
  have t2 : (op == 2) = false := by rw [beq_eq_false_iff_ne]; exact fun e => h2 (.inl e)
  have t3 : (op == 3) = false := by rw [beq_eq_false_iff_ne]; exact fun e => h2 (.inr e)
  have t21 : (op == 21) = false := by rw [beq_eq_false_iff_ne]; exact h21
  have t23 : (op == 23) = false := by rw [beq_eq_false_iff_ne]; exact fun e => h23 (.inl e)
  have t24 : (op == 24) = false := by rw [beq_eq_false_iff_ne]; exact fun e => h23 (.inr e)
  have t22 : (op == 22) = false := by rw [beq_eq_false_iff_ne]; exact h22
  have t17 : (op == 17) = false := by rw [beq_eq_false_iff_ne]; exact h17
  clear h2 h21 h23 h22 h17
  go_enter Tryz.func53, Tryz.ntmps53
  go_upto_region 1 with fail
  rw [← HWE.out.1, ← HWE.out.2]
  have HQ := Lib.hid hq
  clear hq
  go_wp2_with fail
  refine (CK.out op w0).mono ?_; rintro e w1 ⟨rfl, rfl⟩
  rw [← HQ.out]
  go_wp2_with fail
  go_ret
  exact ⟨rfl, HB0.out⟩
end Go.Proofs.YtahmnmpfjgddpaaGreatDoor
namespace Go.Proofs.YtahmnmpfjgddpaaGreatDoor
set_option linter.unusedVariables false
set_option linter.unusedSimpArgs false
open Go.RowKit Go.Conc

/-- the depth of a place that was reached -/
def lookv (V : List (Int × Int)) (p : Int) : Option Int := (V.find? (fun x => x.1 == p)).map (·.2)
theorem lookv_some {V : List (Int × Int)} {p d : Int} (h : lookv V p = some d) : (p, d) ∈ V := by
  unfold lookv at h
  obtain ⟨x, hx, rfl⟩ := Option.map_eq_some_iff.1 h
  have h1 := List.find?_some hx
  have h2 := List.mem_of_find?_eq_some hx
  simp at h1
  subst h1
  exact h2
theorem lookv_none {V : List (Int × Int)} {p : Int} (h : lookv V p = none) : ∀ x ∈ V, x.1 ≠ p := by
  unfold lookv at h
  rw [Option.map_eq_none_iff, List.find?_eq_none] at h
  intro x hx e
  exact h x hx (by simp [e])
theorem lookv_snoc (V : List (Int × Int)) (p d k : Int) (h : lookv V p = none) : lookv (V ++ [(p, d)]) k = if k = p then some d else lookv V k := by
  unfold lookv at h ⊢
  rw [List.find?_append]
  by_cases e : k = p
  · subst e
    rw [if_pos rfl]
    rw [Option.map_eq_none_iff] at h
    rw [h]
    simp
  · rw [if_neg e]
    have : (List.find? (fun x => x.1 == k) [(p, d)]) = none := by
      simp
      exact fun h => e h.symm
    rw [this]
    simp
def reachv (n : Nat) (V : List (Int × Int)) (p d : Int) : Bool × List (Int × Int) :=
  if 0 ≤ p ∧ p < (n : Int) then
    match lookv V p with
    | some q => (decide (q = d), V)
    | none => (true, V ++ [(p, d)])
  else (false, V)

def chanv (V : List (Int × Int)) (r : Nat) : Array Value := ((V.drop r).map fun x => Value.int .i64 x.1).toArray
structure LookIs (w : World) (X mb cb : Nat) (k : Nat) (f : FnR) (A : Option Addr) (c : Nat) (B : Option Addr) (d : Nat) (V : List (Int × Int)) (r : Nat) : Prop where
  box : LookBox w X k f A c B d mb cb
  map : VMap w mb V.length (lookv V)
  chan : w.heap[cb]? = some (.chan f.l.length (chanv V r) false V.length r false)
  nodup : (V.map (·.1)).Nodup
  range : ∀ x ∈ V, 0 ≤ x.1 ∧ x.1 < (f.l.length : Int)
  got : r ≤ V.length
theorem VMap.block {w : World} {b n : Nat} {M : Int → Option Int} (h : VMap w b n M) : ∃ es cl, w.heap[b]? = some (.map es cl) := by
  obtain ⟨D, ⟨es, clock, hb, r⟩, hM⟩ := h
  exact ⟨_, _, hb⟩
theorem LookIs.ne {w : World} {X mb cb : Nat} {k : Nat} {f : FnR} {A : Option Addr} {c : Nat} {B : Option Addr} {d : Nat} {V : List (Int × Int)} {r : Nat} (h : LookIs w X mb cb k f A c B d V r) : X ≠ mb ∧ X ≠ cb ∧ mb ≠ cb := by
  obtain ⟨es, cl, hb⟩ := h.map.block
  have h1 := h.box
  unfold LookBox at h1
  have h2 := h.chan
  refine ⟨fun e => ?_, fun e => ?_, fun e => ?_⟩
  · rw [e, hb] at h1; cases h1
  · rw [e, h2] at h1; cases h1
  · rw [e, h2] at hb; cases hb
/-- as many places as are reached there are -/
theorem pigeon : ∀ (n : Nat) (l : List Int), l.Nodup → (∀ x ∈ l, 0 ≤ x ∧ x < (n : Int)) → l.length ≤ n
  | 0, l, _, h => by
    cases l with
    | nil => simp
    | cons x l => have := h x (by simp); omega
  | n + 1, l, hn, h => by
    have h1 := pigeon n (l.filter (fun x => x != (n : Int))) (hn.filter _) (fun x hx => by
      rw [List.mem_filter] at hx
      have := h x hx.1
      have h2 : x ≠ (n : Int) := by simpa using hx.2
      omega)
    have h2 : l.length ≤ (l.filter (fun x => x != (n : Int))).length + 1 := by
      have e := List.length_eq_countP_add_countP (l := l) (fun x => x != (n : Int))
      rw [List.countP_eq_length_filter, List.countP_eq_length_filter] at e
      have h3 : (l.filter (fun x => decide ¬(x != (n : Int)) = true)).length ≤ 1 := by
        have h4 : (l.filter (fun x => decide ¬(x != (n : Int)) = true)) = l.filter (· == (n : Int)) := by
          congr 1; funext x; by_cases e : x = (n : Int) <;> simp [e]
        rw [h4]
        have h5 := List.count_eq_length_filter (a := (n : Int)) (l := l)
        rw [← h5]
        exact List.nodup_iff_count.1 hn _
      omega
    omega
theorem LookIs.count {w : World} {X mb cb : Nat} {k : Nat} {f : FnR} {A : Option Addr} {c : Nat} {B : Option Addr} {d : Nat} {V : List (Int × Int)} {r : Nat} (h : LookIs w X mb cb k f A c B d V r) : V.length ≤ f.l.length := by
  have := pigeon f.l.length (V.map (·.1)) h.nodup (fun x hx => by
    obtain ⟨y, hy, rfl⟩ := List.mem_map.1 hx
    exact h.range y hy)
  rwa [List.length_map] at this
theorem LookIs.room {w : World} {X mb cb : Nat} {k : Nat} {f : FnR} {A : Option Addr} {c : Nat} {B : Option Addr} {d : Nat} {V : List (Int × Int)} {r : Nat} (h : LookIs w X mb cb k f A c B d V r) {p : Int} (hp : 0 ≤ p ∧ p < (f.l.length : Int)) (hn : lookv V p = none) : V.length < f.l.length := by
  have h1 : p ∉ V.map (·.1) := fun hm => by
    obtain ⟨y, hy, e⟩ := List.mem_map.1 hm
    exact lookv_none hn y hy e
  have := pigeon f.l.length (p :: V.map (·.1)) (List.nodup_cons.2 ⟨h1, h.nodup⟩) (fun x hx => by
    rcases List.mem_cons.1 hx with rfl | hx
    · exact hp
    · obtain ⟨y, hy, rfl⟩ := List.mem_map.1 hx
      exact h.range y hy)
  rw [List.length_cons, List.length_map] at this
  omega
theorem chanv_snoc (V : List (Int × Int)) (r : Nat) (p d : Int) (h : r ≤ V.length) : chanv (V ++ [(p, d)]) r = (chanv V r).push (.int .i64 p) := by
  unfold chanv
  rw [List.drop_append_of_le_length h]
  simp
theorem LookIs.kept {w w' : World} {X mb cb : Nat} {k : Nat} {f : FnR} {A : Option Addr} {c : Nat} {B : Option Addr} {d : Nat} {V : List (Int × Int)} {r : Nat} {T : Nat → Prop} (h : LookIs w X mb cb k f A c B d V r) (hc : Chg T w w') (h1 : ¬ T X) (h2 : ¬ T mb) (h3 : ¬ T cb) : LookIs w' X mb cb k f A c B d V r :=
  ⟨hc.heap h.box h1, h.map.kept hc h2, hc.heap h.chan h3, h.nodup, h.range, h.got⟩
theorem LookIs.keep {w w' : World} {X mb cb : Nat} {k : Nat} {f : FnR} {A : Option Addr} {c : Nat} {B : Option Addr} {d : Nat} {V : List (Int × Int)} {r : Nat} (h : LookIs w X mb cb k f A c B d V r) (hb : Below w.heap.size w w') : LookIs w' X mb cb k f A c B d V r :=
  h.kept (Below.chg hb) (fun x => x) (fun x => x) (fun x => x)
theorem LookIs.heap {w w' : World} {X mb cb : Nat} {k : Nat} {f : FnR} {A : Option Addr} {c : Nat} {B : Option Addr} {d : Nat} {V : List (Int × Int)} {r : Nat} (h : LookIs w X mb cb k f A c B d V r) (e : w'.heap = w.heap) : LookIs w' X mb cb k f A c B d V r :=
  ⟨by have := h.box; unfold LookBox at this ⊢; rw [e]; exact this, h.map.heap e, by rw [e]; exact h.chan, h.nodup, h.range, h.got⟩
theorem Chg.setChan {S : Nat → Prop} {a b : World} (h : Chg S a b) {ch : Nat} (hp : S ch) (cap : Nat) (buf : Array Value) (cl : Bool) (s r : Nat) (tm : Bool) : Chg S a (b.setChan ch cap buf cl s r tm) :=
  h.then ⟨rfl, rfl, rfl, by simp [World.setChan], fun k _ hn => by
    simp only [World.setChan]
    rw [Array.getElem?_setIfInBounds_ne (fun e => hn (by rw [← e]; exact hp))]⟩

set_option maxHeartbeats 4000000 in
set_option maxRecDepth 100000 in
theorem reaches_any {w : World} {X mb cb : Nat} {k : Nat} {f : FnR} {A : Option Addr} {c : Nat} {B : Option Addr} {d : Nat} {V : List (Int × Int)} {r : Nat} (h : LookIs w X mb cb k f A c B d V r) (hl : f.l.length ≤ 1048576) (p dp : Int) :
    Calls Tryz.prog 32 #[.pointer (some ⟨X, 0, none⟩), .int .i64 p, .int .i64 dp] w fun e w' => e = .returned (.bool (reachv f.l.length V p dp).1) ∧ LookIs w' X mb cb k f A c B d (reachv f.l.length V p dp).2 r ∧ Chg (fun x => x = mb ∨ x = cb) w w' := by
  have CI := Lib.hid (in_any p 0 (f.l.length : Int) w)
  have HL := Lib.hid h
  have hx := h.box
  unfold LookBox at hx
  have y5 := cell_of_block hx 5
  have y6 := cell_of_block hx 6
  have y7 := cell_of_block hx 7
  simp at y5 y6 y7
  have HX := Lib.hid hx
  obtain ⟨R, hR⟩ : ∃ R, R = reachv f.l.length V p dp := ⟨_, rfl⟩
  rw [← hR]
  obtain ⟨n, hn⟩ : ∃ n, n = f.l.length := ⟨_, rfl⟩
  rw [← hn] at CI y5 hl
  have HN := Lib.hid hn
  clear h hx
  by_cases hp : 0 ≤ p ∧ p < (n : Int)
  · rw [decide_eq_true hp] at CI
    have hpw : (Lit.int .i64 p).wf = true := by
      have : IntKind.i64.min ≤ p ∧ p ≤ IntKind.i64.max := ⟨by show (-9223372036854775808 : Int) ≤ p; omega, by show p ≤ (9223372036854775807 : Int); omega⟩
      simpa [Lit.wf] using this
    have hlk := HL.out.map.look_ok p hpw
    have HP := Lib.hid hp
    cases hv : lookv V p with
    | some q =>
      have hR2 : R = (decide (q = dp), V) := by rw [hR]; unfold reachv; rw [← hn, if_pos hp, hv]
      clear hR
      subst hR2
      rw [hv] at hlk
      simp only [Option.getD_some, Option.isSome_some] at hlk
      clear hv hn hp
      go_enter Tryz.func32, Tryz.ntmps32
      go_wp2_with fail
      refine CI.out.mono ?_; rintro e w1 ⟨rfl, rfl⟩
      by_cases hq : q = dp
      · subst hq
        go_wp2_with fail
        go_ret
        exact ⟨by simp, HL.out, Chg.refl _ _⟩
      · have t1 : (q == dp) = false := by rw [beq_eq_false_iff_ne]; exact hq
        have t2 : decide (q = dp) = false := decide_eq_false hq
        have HQ := Lib.hid hq
        clear hq
        go_wp2_with fail
        go_ret
        exact ⟨by first | rfl | simp [HQ.out], HL.out, Chg.refl _ _⟩
    | none =>
      have hR2 : R = (true, V ++ [(p, dp)]) := by rw [hR]; unfold reachv; rw [← hn, if_pos hp, hv]
      clear hR
      subst hR2
      rw [hv] at hlk
      simp only [Option.getD_none, Option.isSome_none] at hlk
      have HV := Lib.hid hv
      have hroom := HL.out.room (by rw [← hn]; exact hp) hv
      rw [← hn] at hroom
      have hgot := HL.out.got
      have HG := Lib.hid (And.intro hroom hgot)
      obtain ⟨w2, hup, hmap2, hc2⟩ := HL.out.map.store p hpw dp (by unfold maxLen; omega)
      obtain ⟨ne1, ne2, ne3⟩ := HL.out.ne
      have hx2 := hc2.heap HX.out (fun e => ne1 e)
      have hch2 := hc2.heap HL.out.chan (fun e => ne3 e.symm)
      have z7 := cell_of_block hx2 7
      simp at z7
      have HM2 := Lib.hid hmap2
      have HC2 := Lib.hid hc2
      have HX2 := Lib.hid hx2
      have HCH2 := Lib.hid hch2
      have HNE := Lib.hid (And.intro ne1 (And.intro ne2 ne3))
      have HSZ : Hid ((chanv V r).size < n) := Lib.hid (by
        have : (chanv V r).size = V.length - r := by simp [chanv]
        omega)
      clear hv hn hp hroom hgot hmap2 hc2 hx2 hch2 ne1 ne2 ne3
      refine calls_of_wpn Tryz.func32 rfl ?_
      simp only [Tryz.ntmps32, List.size_toArray, List.length_cons, List.length_nil, Nat.reduceAdd, Nat.reduceSub, Array.replicate_succ, Array.replicate_zero, List.push_toArray, List.append_toArray, List.nil_append, List.cons_append]
      refine wpn_seq_k (fun K hK => ?_)
      go_wp2_with fail
      try clear hK
      try clear K
      refine wpn_seq_k (fun K hK => ?_)
      go_wp2_with fail
      refine CI.out.mono ?_; rintro e w1 ⟨rfl, rfl⟩
      go_wp2_with fail
      try clear hK
      try clear K
      refine wpn_seq_k (fun K hK => ?_)
      go_wp2_with fail
      try clear hK
      try clear K
      refine wpn_seq_k (fun K hK => ?_)
      go_wp2_with fail
      try clear hK
      try clear K
      refine wpn_seq_k (fun K hK => ?_)
      go_wp2_with fail
      try clear hK
      try clear K
      clear y5 y6 y7 hlk hup
      refine wpn_seq ?_
      refine wpn_region ?_
      show opsn _ _ _ [0, 1, 2, 3, 4, 5] _ _
      iterate 5 (refine opsn_look rfl rfl (by go_simp; with_reducible rfl) ?_; simp only [Act.put, List.setIfInBounds_toArray, List.set_cons_succ, List.set_cons_zero])
      refine opsn_send rfl rfl (w₁ := w2) (c := cb) (v := .int .i64 p) (z := .tuple #[]) (by simp [go_sem, execOp, scase, Act.eval]) (by rw [HCH2.out, ← HN.out]) HSZ.out ?_
      simp only [Act.put]
      refine opsn_end ?_
      refine wpn_of_wp ?_
      obtain ⟨w3, hw3⟩ : ∃ w3, w3 = w2.setChan cb n ((chanv V r).push (.int .i64 p)) false (V.length + 1) r false := ⟨_, rfl⟩
      have HC3 : Hid (Chg (fun x => x = cb) w2 w3) := Lib.hid (by rw [hw3]; exact (Chg.refl (fun x => x = cb) w2).setChan (ch := cb) rfl _ _ _ _ _ _)
      have HB3 : Hid (w3.heap[cb]? = some (.chan f.l.length (chanv (V ++ [(p, dp)]) r) false (V ++ [(p, dp)]).length r false)) := Lib.hid (by
        rw [hw3, ← HN.out, chanv_snoc V r p dp HG.out.2, List.length_append]
        exact heap_setChan _ _ _ _ _ _ _ _ (lt_of_heap HCH2.out))
      rw [← hw3]
      clear hw3
      go_wp2_with fail
      go_ret
      refine ⟨rfl, ⟨HC3.out.heap HX2.out HNE.out.2.1, ?_, HB3.out, ?_, ?_, ?_⟩, (HC2.out.mono (fun _ _ e => .inl e)).then (HC3.out.mono (fun _ _ e => .inr e))⟩
      · have h1 := HM2.out.kept HC3.out HNE.out.2.2
        have e : (fun x => if x = p then some dp else lookv V x) = lookv (V ++ [(p, dp)]) := by funext x; rw [lookv_snoc V p dp x HV.out]
        rw [e] at h1
        rw [List.length_append]
        exact h1
      · rw [List.map_append, List.nodup_append]
        refine ⟨HL.out.nodup, by simp, fun a ha b hb e => ?_⟩
        obtain ⟨y, hy, rfl⟩ := List.mem_map.1 ha
        have hb : b = p := by simpa using hb
        exact lookv_none HV.out y hy (by rw [e, hb])
      · intro x hx
        rcases List.mem_append.1 hx with hx | hx
        · exact HL.out.range x hx
        · have : x = (p, dp) := by simpa using hx
          rw [this, ← HN.out]
          exact HP.out
      · rw [List.length_append]
        have := HG.out.2
        omega
  · have hR2 : R = (false, V) := by rw [hR]; unfold reachv; rw [← hn, if_neg hp]
    clear hR
    subst hR2
    rw [decide_eq_false hp] at CI
    clear hp hn
    go_enter Tryz.func32, Tryz.ntmps32
    go_wp2_with fail
    refine CI.out.mono ?_; rintro e w1 ⟨rfl, rfl⟩
    go_wp2_with fail
    go_ret
    exact ⟨rfl, HL.out, Chg.refl _ _⟩
end Go.Proofs.YtahmnmpfjgddpaaGreatDoor
namespace Go.Proofs.YtahmnmpfjgddpaaGreatDoor
set_option linter.unusedVariables false
set_option linter.unusedSimpArgs false
open Go.RowKit Go.Conc

def noFn : FnR := ⟨ByteArray.empty, 0, 0, 0, []⟩
def noIns : InsR := ⟨0, 0, 0⟩
/-- how many an instruction takes, and the depth behind it -/
def takesAt (fs : List FnR) (i : InsR) : Int := if i.op = 17 then (fs.getD i.a.toNat noFn).ps else takesv i.op
def behind (fs : List FnR) (i : InsR) (dp : Int) : Int := wrap64 (wrap64 (dp - takesAt fs i) + leavesv i.op)
def succs (i : InsR) (p : Int) : List Int := if i.op = 18 then [] else if i.op = 15 then [i.a] else if i.op = 16 then [i.a, p + 1] else [p + 1]
def okAt (fs : List FnR) (f : FnR) (i : InsR) (dp : Int) : Bool := opOk fs.length f i && decide (0 ≤ wrap64 (dp - takesAt fs i))
def reachAll (n : Nat) (V : List (Int × Int)) : List Int → Int → Bool × List (Int × Int)
  | [], _ => (true, V)
  | q :: qs, dp => if (reachv n V q dp).1 = true then reachAll n (reachv n V q dp).2 qs dp else (false, (reachv n V q dp).2)
def placev (fs : List FnR) (f : FnR) (V : List (Int × Int)) (i : InsR) (p dp : Int) : Bool × List (Int × Int) :=
  if okAt fs f i dp = true then reachAll f.l.length V (succs i p) (behind fs i dp) else (false, V)
theorem reachAll_one (n : Nat) (V : List (Int × Int)) (q dp : Int) : reachAll n V [q] dp = reachv n V q dp := by
  unfold reachAll reachAll
  obtain ⟨b, V1⟩ := reachv n V q dp
  cases b <;> simp

set_option maxHeartbeats 4000000 in
set_option maxRecDepth 100000 in
theorem place_any {w : World} {X mb cb : Nat} {fs : List FnR} {f : FnR} {A : Option Addr} {c : Nat} {B : Option Addr} {d : Nat} {V : List (Int × Int)} {r : Nat} (h : LookIs w X mb cb fs.length f A c B d V r) (hs : SortsIs w)
    (hfs : FnsIs w (.slice A fs.length c) fs) (hkn : fs.length ≤ 1048576) (hsrc : Src w (.slice B f.l.length d) f.l.length (insCells f.l)) (hl : f.l.length ≤ 1048576) (p : Nat) (hp : p < f.l.length) (dp : Int) (hdp : lookv V p = some dp) :
    Calls Tryz.prog 33 #[.pointer (some ⟨X, 0, none⟩), .int .i64 p] w fun e w' => e = .returned (.bool (placev fs f V f.l[p] p dp).1) ∧ LookIs w' X mb cb fs.length f A c B d (placev fs f V f.l[p] p dp).2 r ∧ Chg (fun x => x = mb ∨ x = cb) w w' := by
  obtain ⟨b, off, cap, e, hbs, hcap, c0, c1, c2⟩ := hsrc.get p hp
  injection e with e1 e2 e3
  subst e1 e3
  obtain ⟨k, hk⟩ : ∃ k, k = fs.length := ⟨_, rfl⟩
  obtain ⟨n, hn⟩ : ∃ n, n = f.l.length := ⟨_, rfl⟩
  have hpn : p < n := by omega
  generalize f.l[p] = i at *
  obtain ⟨op, a, nn⟩ := i
  simp only at c0 c1 c2
  obtain ⟨R, hR⟩ : ∃ R, R = placev fs f V ⟨op, a, nn⟩ p dp := ⟨_, rfl⟩
  rw [← hR]
  obtain ⟨w0, hw0⟩ : ∃ w0, w0 = w.alloc (.cells #[.int .i64 op, .int .i64 a, .int .i64 nn] 42) := ⟨_, rfl⟩
  obtain ⟨P0, hP0⟩ : ∃ P0, P0 = w.heap.size := ⟨_, rfl⟩
  have hb0 : Below w.heap.size w w0 := by rw [hw0]; exact (Below.refl _ _).alloc (Nat.le_refl _) _
  have HI0 : Hid (w0.heap[P0]? = some (.cells #[.int .i64 op, .int .i64 a, .int .i64 nn] 42 (0, 0))) := Lib.hid (by rw [hw0]; exact heap_new' hP0.symm)
  have hx := h.box
  unfold LookBox at hx
  rw [← hk, ← hn] at hx
  have y5 := cell_of_block hx 5
  simp at y5
  have hBo := operands_any (h.keep hb0).box (k := fs.length) hkn ⟨op, a, nn⟩
  have HL0 := Lib.hid (h.keep hb0)
  have HS0 := Lib.hid (hs.keep hb0)
  have HF0 := Lib.hid (hfs.keep hb0)
  have HB0 := Lib.hid hb0
  have CO := Lib.hid hBo
  have HWE := Lib.hid (And.intro hw0 hP0)
  have HKN := Lib.hid (And.intro hk hn)
  have HDP := Lib.hid hdp
  have hkn' : k ≤ 1048576 := by omega
  have hln' : n ≤ 1048576 := by omega
  clear h hs hfs hsrc hw0 hP0 hb0 hBo hx hk hn hdp hbs hp
  unfold InsR.agg at CO
  simp only at CO
  go_enter Tryz.func33, Tryz.ntmps33
  go_upto_region 2 with fail
  rw [← HWE.out.1, ← HWE.out.2]
  have i0 := cell_of_block HI0.out 0
  have i1 := cell_of_block HI0.out 1
  have i2 := cell_of_block HI0.out 2
  simp at i0 i1 i2
  clear y5 c0 c1 c2
  go_wp2_with fail
  refine CO.out.mono ?_; rintro e w1 ⟨rfl, hb1⟩
  have HB1 := Lib.hid (bel_trans HB0.out hb1)
  have HL1 := Lib.hid (HL0.out.keep hb1)
  have HS1 := Lib.hid (HS0.out.keep hb1)
  have HF1 := Lib.hid (HF0.out.keep hb1)
  have HI1 := Lib.hid ((Below.chg hb1).heap HI0.out (fun x => x))
  clear hb1 CO HL0 HS0 HF0 HI0 HB0 i0 i1 i2
  have i0 := cell_of_block HI1.out 0
  have i1 := cell_of_block HI1.out 1
  have i2 := cell_of_block HI1.out 2
  simp at i0 i1 i2
  cases hok : opOk fs.length f ⟨op, a, nn⟩ with
  | false =>
    have hR2 : R = (false, V) := by rw [hR]; unfold placev okAt; rw [hok]; rfl
    clear hR hok
    subst hR2
    go_wp2_with fail
    go_ret
    exact ⟨rfl, HL1.out, (Below.chg HB1.out).mono (fun _ _ x => x.elim)⟩
  | true =>
    have ho := opOk_known hok
    simp only at ho
    have HOK := Lib.hid hok
    have hpw : (Lit.int .i64 (p : Int)).wf = true := by
      have : IntKind.i64.min ≤ (p : Int) ∧ (p : Int) ≤ IntKind.i64.max := ⟨by show (-9223372036854775808 : Int) ≤ p; omega, by show (p : Int) ≤ (9223372036854775807 : Int); omega⟩
      simpa [Lit.wf] using this
    have HPW := Lib.hid hpw
    have C1 := Lib.hid (takes_any HS1.out op ho)
    have HO := Lib.hid ho
    clear hok hpw ho
    go_wp2_with fail
    refine C1.out.mono ?_; rintro e w2 ⟨rfl, hb2⟩
    have HB2 := Lib.hid (bel_trans HB1.out hb2)
    have HL2 := Lib.hid (HL1.out.keep hb2)
    have HS2 := Lib.hid (HS1.out.keep hb2)
    have HF2 := Lib.hid (HF1.out.keep hb2)
    have HI2 := Lib.hid ((Below.chg hb2).heap HI1.out (fun x => x))
    clear hb2 C1 i0 i1 i2
    have hx := HL2.out.box
    unfold LookBox at hx
    rw [← HKN.out.1, ← HKN.out.2] at hx
    have y0 := cell_of_block hx 0
    have y6 := cell_of_block hx 6
    have i0 := cell_of_block HI2.out 0
    have i1 := cell_of_block HI2.out 1
    simp at y0 y6 i0 i1
    have hlk : ∀ m, (Instr.lookup 87 (.map (some mb)) (.int .i64 (p : Int)) false).run Tryz.prog (w2.drewN m) = .ok (.int .i64 dp) (w2.drewN m) := fun m => by
      have h := (HL2.out.map.heap (w' := w2.drewN m) rfl).look p HPW.out
      rw [HDP.out] at h
      exact h
    have hlk0 : (Instr.lookup 87 (.map (some mb)) (.int .i64 (p : Int)) false).run Tryz.prog w2 = .ok (.int .i64 dp) w2 := by
      have h := HL2.out.map.look p HPW.out
      rw [HDP.out] at h
      exact h
    obtain ⟨D0, hD0⟩ : ∃ D0, wrap64 (dp - takesAt fs ⟨op, a, nn⟩) = D0 := ⟨_, rfl⟩
    obtain ⟨D1, hD1⟩ : ∃ D1, wrap64 (D0 + leavesv op) = D1 := ⟨_, rfl⟩
    have hbh : behind fs ⟨op, a, nn⟩ dp = D1 := by unfold behind; rw [hD0]; exact hD1
    have HRV : Hid (R = if 0 ≤ D0 then reachAll n V (succs ⟨op, a, nn⟩ p) D1 else (false, V)) := Lib.hid (by
      rw [hR]
      unfold placev okAt
      rw [HOK.out, Bool.true_and, hD0, hbh, ← HKN.out.2]
      by_cases h : 0 ≤ D0
      · rw [if_pos h, decide_eq_true h, if_pos rfl]
      · rw [if_neg h, decide_eq_false h, if_neg (by decide)])
    clear hx hR hbh
    by_cases h17 : op = 17
    · subst h17
      have hop := HOK.out
      have ha : 1 ≤ a ∧ a < (fs.length : Int) := by
        unfold opOk at hop
        simp at hop
        exact hop
      rw [← HKN.out.1] at ha
      obtain ⟨j, rfl⟩ : ∃ j : Nat, a = (j : Int) := ⟨a.toNat, by omega⟩
      obtain ⟨b2, off2, cap2, A2, cc2, e, _, hcap2, ⟨_, g1, _, _, _⟩, _⟩ := HF2.out.get j (by have := HKN.out.1; omega)
      injection e with e1 e2 e3
      subst e1 e3
      have hT : takesAt fs ⟨17, j, nn⟩ = (fs[j]'(by have := HKN.out.1; omega)).ps := by
        unfold takesAt
        simp only [if_pos]
        rw [show ((j : Int)).toNat = j by omega, List.getD_eq_getElem?_getD, List.getElem?_eq_getElem (by have := HKN.out.1; omega)]
        rfl
      rw [hT] at hD0
      obtain ⟨T, hTT⟩ : ∃ T, T = (fs[j]'(by have := HKN.out.1; omega)).ps := ⟨_, rfl⟩
      rw [← hTT] at hD0 g1
      have hj1 : (1 : Int) ≤ (j : Int) := ha.1
      have hj2 : j < k := by omega
      rw [← HKN.out.1] at hcap2
      clear hop hT hTT e2
      go_wp2_with fail
      go_quiet (fail)
      obtain ⟨w3, hw3⟩ : ∃ w3, w3 = w2.drewN nq := ⟨_, rfl⟩
      have hb3 : Below w2.heap.size w2 w3 := by rw [hw3]; exact ((Chg.refl (fun _ => False) w2).drewN nq).below (fun k h => h.elim) (Nat.le_refl _)
      have HL3 := Lib.hid (HL2.out.keep hb3)
      have HS3 := Lib.hid (HS2.out.keep hb3)
      have HB3 := Lib.hid (bel_trans HB2.out hb3)
      have HI3 := Lib.hid ((Below.chg hb3).heap HI2.out (fun x => x))
      have hlk3 := hlk nq
      rw [← hw3] at hlk3 ⊢
      have y6' := cell_of_block (by have h := HL3.out.box; unfold LookBox at h; exact h) 6
      have i0' := cell_of_block HI3.out 0
      have i1' := cell_of_block HI3.out 1
      simp at y6' i0' i1'
      clear hlk hlk0 hw3 hb3 y0 y6 i0 i1 g1
      have i0 := i0'
      have i1 := i1'
      have y6 := y6'
      have y0 := y6'
      clear i0' i1' y6'
      have hR0 : 0 ≤ D0 ∨ D0 < 0 := by omega
      by_cases hD : D0 < 0
      · have hR2 : R = (false, V) := by rw [HRV.out, if_neg (by omega)]
        subst hR2
        go_wp2_with fail
        go_ret
        exact ⟨rfl, HL3.out, (Below.chg HB3.out).mono (fun _ _ x => x.elim)⟩
      · have hRR : R = reachAll n V (succs ⟨17, j, nn⟩ p) D1 := by rw [HRV.out, if_pos (by omega)]
        have HRR := Lib.hid hRR
        have C4 := Lib.hid (leaves_any HS3.out 17 HO.out)
        clear hRR hR0
        go_wp2_with fail
        refine C4.out.mono ?_; rintro e w4 ⟨rfl, hb4⟩
        have HB4 := Lib.hid (bel_trans HB3.out hb4)
        have HL4 := Lib.hid (HL3.out.keep hb4)
        have HI4 := Lib.hid ((Below.chg hb4).heap HI3.out (fun x => x))
        clear hb4 C4 i0 i1 y0 y6
        have i0 := cell_of_block HI4.out 0
        have i1 := cell_of_block HI4.out 1
        simp at i0 i1
        have HFIN : Hid (∀ w', Chg (fun x => x = mb ∨ x = cb) w4 w' → Chg (fun x => x = mb ∨ x = cb) w w') := Lib.hid (fun w' hc => ((Below.chg HB4.out).mono (fun _ _ x => x.elim)).then hc)
        have HSU : Hid (succs ⟨17, (j : Int), nn⟩ p = [(p : Int) + 1]) := Lib.hid rfl
        have HR1 : Hid (R = reachv n V (p + 1) D1) := Lib.hid (by rw [HRR.out, HSU.out, reachAll_one])
        have C5 := Lib.hid (reaches_any HL4.out (by have := HKN.out.2; omega) (p + 1) D1)
        rw [← HKN.out.2, ← HR1.out] at C5
        go_wp2_with fail
        refine C5.out.mono ?_; rintro e w5 ⟨rfl, hl5, hc5⟩
        have HL5 := Lib.hid (And.intro hl5 (HFIN.out _ hc5))
        clear hl5 hc5
        go_wp2_with fail
        go_ret
        exact ⟨rfl, HL5.out.1, HL5.out.2⟩
    · have hT : takesAt fs ⟨op, a, nn⟩ = takesv op := by unfold takesAt; rw [if_neg h17]
      rw [hT] at hD0
      have t17 : (op == 17) = false := by rw [beq_eq_false_iff_ne]; exact h17
      obtain ⟨T, hTT⟩ : ∃ T, takesv op = T := ⟨_, rfl⟩
      rw [hTT] at hD0 ⊢
      clear hT hTT
      have HL3 := HL2
      have HS3 := HS2
      have HB3 := HB2
      have HI3 := HI2
      clear hlk
      have hR0 : 0 ≤ D0 ∨ D0 < 0 := by omega
      by_cases hD : D0 < 0
      · have hR2 : R = (false, V) := by rw [HRV.out, if_neg (by omega)]
        subst hR2
        go_wp2_with fail
        go_ret
        exact ⟨rfl, HL3.out, (Below.chg HB3.out).mono (fun _ _ x => x.elim)⟩
      · have hRR : R = reachAll n V (succs ⟨op, a, nn⟩ p) D1 := by rw [HRV.out, if_pos (by omega)]
        have HRR := Lib.hid hRR
        have C4 := Lib.hid (leaves_any HS3.out op HO.out)
        clear hRR hR0
        go_wp2_with fail
        refine C4.out.mono ?_; rintro e w4 ⟨rfl, hb4⟩
        have HB4 := Lib.hid (bel_trans HB3.out hb4)
        have HL4 := Lib.hid (HL3.out.keep hb4)
        have HI4 := Lib.hid ((Below.chg hb4).heap HI3.out (fun x => x))
        clear hb4 C4 i0 i1 y0 y6
        have i0 := cell_of_block HI4.out 0
        have i1 := cell_of_block HI4.out 1
        simp at i0 i1
        have HFIN : Hid (∀ w', Chg (fun x => x = mb ∨ x = cb) w4 w' → Chg (fun x => x = mb ∨ x = cb) w w') := Lib.hid (fun w' hc => ((Below.chg HB4.out).mono (fun _ _ x => x.elim)).then hc)
        by_cases h18 : op = 18
        · subst h18
          have hR2 : R = (true, V) := by rw [HRR.out]; rfl
          subst hR2
          go_wp2_with fail
          go_ret
          exact ⟨rfl, HL4.out, HFIN.out _ (Chg.refl _ _)⟩
        by_cases h15 : op = 15
        · subst h15
          have HR1 : Hid (R = reachv n V a D1) := Lib.hid (by rw [HRR.out]; exact reachAll_one _ _ _ _)
          have C5 := Lib.hid (reaches_any HL4.out (by have := HKN.out.2; omega) a D1)
          rw [← HKN.out.2, ← HR1.out] at C5
          go_wp2_with fail
          refine C5.out.mono ?_; rintro e w5 ⟨rfl, hl5, hc5⟩
          have HL5 := Lib.hid (And.intro hl5 (HFIN.out _ hc5))
          clear hl5 hc5
          go_wp2_with fail
          go_ret
          exact ⟨rfl, HL5.out.1, HL5.out.2⟩
        by_cases h16 : op = 16
        · subst h16
          have C5 := Lib.hid (reaches_any HL4.out (by have := HKN.out.2; omega) a D1)
          rw [← HKN.out.2] at C5
          have HR1 : Hid (R = reachAll n V [a, (p : Int) + 1] D1) := Lib.hid (by rw [HRR.out]; rfl)
          rcases hrv : reachv n V a D1 with ⟨bb, V1⟩
          rw [hrv] at C5
          simp only at C5
          have HRV1 := Lib.hid hrv
          clear hrv
          cases bb with
          | false =>
            have hR2 : R = (false, V1) := by rw [HR1.out]; unfold reachAll; rw [HRV1.out]; rfl
            subst hR2
            go_wp2_with fail
            refine C5.out.mono ?_; rintro e w5 ⟨rfl, hl5, hc5⟩
            have HL5 := Lib.hid (And.intro hl5 (HFIN.out _ hc5))
            clear hl5 hc5
            go_wp2_with fail
            go_ret
            exact ⟨rfl, HL5.out.1, HL5.out.2⟩
          | true =>
            have HR2 : Hid (R = reachv n V1 ((p : Int) + 1) D1) := Lib.hid (by rw [HR1.out, reachAll, HRV1.out]; exact reachAll_one _ _ _ _)
            go_wp2_with fail
            refine C5.out.mono ?_; rintro e w5 ⟨rfl, hl5, hc5⟩
            have C6 := Lib.hid (reaches_any hl5 (by have := HKN.out.2; omega) ((p : Int) + 1) D1)
            rw [← HKN.out.2, ← HR2.out] at C6
            have HC5 := Lib.hid hc5
            clear hl5 hc5
            go_wp2_with fail
            refine C6.out.mono ?_; rintro e w6 ⟨rfl, hl6, hc6⟩
            have HL6 := Lib.hid (And.intro hl6 (HFIN.out _ (HC5.out.then hc6)))
            clear hl6 hc6
            go_wp2_with fail
            go_ret
            exact ⟨rfl, HL6.out.1, HL6.out.2⟩
        have HSU : Hid (succs ⟨op, a, nn⟩ p = [(p : Int) + 1]) := Lib.hid (by unfold succs; rw [if_neg h18, if_neg h15, if_neg h16])
        have t18 : (op == 18) = false := by rw [beq_eq_false_iff_ne]; exact h18
        have t15 : (op == 15) = false := by rw [beq_eq_false_iff_ne]; exact h15
        have t16 : (op == 16) = false := by rw [beq_eq_false_iff_ne]; exact h16
        clear h18 h15 h16
        have HR1 : Hid (R = reachv n V (p + 1) D1) := Lib.hid (by rw [HRR.out, HSU.out, reachAll_one])
        have C5 := Lib.hid (reaches_any HL4.out (by have := HKN.out.2; omega) (p + 1) D1)
        rw [← HKN.out.2, ← HR1.out] at C5
        go_wp2_with fail
        refine C5.out.mono ?_; rintro e w5 ⟨rfl, hl5, hc5⟩
        have HL5 := Lib.hid (And.intro hl5 (HFIN.out _ hc5))
        clear hl5 hc5
        go_wp2_with fail
        go_ret
        exact ⟨rfl, HL5.out.1, HL5.out.2⟩
end Go.Proofs.YtahmnmpfjgddpaaGreatDoor
namespace Go.Proofs.YtahmnmpfjgddpaaGreatDoor
set_option linter.unusedVariables false
set_option linter.unusedSimpArgs false
open Go.RowKit

def insAt (f : FnR) (p : Int) : InsR := f.l.getD p.toNat noIns
/-- D tells a depth of each place that is reached -/
def WTy (fs : List FnR) (f : FnR) (D : Int → Option Int) : Prop :=
  D 0 = some 0 ∧ ∀ p dp, D p = some dp → (0 ≤ p ∧ p < (f.l.length : Int)) ∧ okAt fs f (insAt f p) dp = true ∧ ∀ q ∈ succs (insAt f p) p, D q = some (behind fs (insAt f p) dp)
/-- each is reached from one ahead of it -/
def Gen (fs : List FnR) (f : FnR) (V : List (Int × Int)) : Prop :=
  ∀ (i : Nat) x, V[i]? = some x → x = (0, 0) ∨ ∃ (j : Nat) (y : Int × Int), j < i ∧ V[j]? = some y ∧ okAt fs f (insAt f y.1) y.2 = true ∧ x.1 ∈ succs (insAt f y.1) y.1 ∧ x.2 = behind fs (insAt f y.1) y.2
def STy (fs : List FnR) (f : FnR) : Prop := ∃ V : List (Int × Int), WTy fs f (lookv V) ∧ Gen fs f V
structure Inv (fs : List FnR) (f : FnR) (V : List (Int × Int)) (r : Nat) : Prop where
  le : r ≤ V.length
  range : ∀ x ∈ V, 0 ≤ x.1 ∧ x.1 < (f.l.length : Int)
  self : ∀ x ∈ V, lookv V x.1 = some x.2
  root : lookv V 0 = some 0
  done : ∀ (j : Nat) x, j < r → V[j]? = some x → okAt fs f (insAt f x.1) x.2 = true ∧ ∀ q ∈ succs (insAt f x.1) x.1, lookv V q = some (behind fs (insAt f x.1) x.2)
  gen : Gen fs f V
  weak : ∀ D, WTy fs f D → ∀ x ∈ V, D x.1 = some x.2

/-- what a row of looks leaves -/
structure Grown (n : Nat) (V V' : List (Int × Int)) (ok : Int → Int → Prop) : Prop where
  add : ∃ E, V' = V ++ E ∧ ∀ x ∈ E, ok x.1 x.2
  keep : ∀ q e, lookv V q = some e → lookv V' q = some e
  range : (∀ x ∈ V, 0 ≤ x.1 ∧ x.1 < (n : Int)) → ∀ x ∈ V', 0 ≤ x.1 ∧ x.1 < (n : Int)
  self : (∀ x ∈ V, lookv V x.1 = some x.2) → ∀ x ∈ V', lookv V' x.1 = some x.2
theorem Grown.refl (n : Nat) (V : List (Int × Int)) (ok : Int → Int → Prop) : Grown n V V ok := ⟨⟨[], by simp, by simp⟩, fun _ _ h => h, fun h => h, fun h => h⟩
theorem Grown.trans {n : Nat} {V V' V'' : List (Int × Int)} {ok : Int → Int → Prop} (h : Grown n V V' ok) (k : Grown n V' V'' ok) : Grown n V V'' ok := by
  obtain ⟨E, h1, h2⟩ := h.add
  obtain ⟨F, k1, k2⟩ := k.add
  refine ⟨⟨E ++ F, by rw [k1, h1, List.append_assoc], fun x hx => ?_⟩, fun q e hq => k.keep _ _ (h.keep _ _ hq), fun r => k.range (h.range r), fun r => k.self (h.self r)⟩
  rcases List.mem_append.1 hx with hx | hx
  · exact h2 x hx
  · exact k2 x hx
theorem reachv_grown (n : Nat) (V : List (Int × Int)) (p d : Int) (ok : Int → Int → Prop) (hok : ok p d) : Grown n V (reachv n V p d).2 ok := by
  unfold reachv
  by_cases hp : 0 ≤ p ∧ p < (n : Int)
  · rw [if_pos hp]
    cases hv : lookv V p with
    | some q => exact Grown.refl _ _ _
    | none =>
      refine ⟨⟨[(p, d)], rfl, fun x hx => by rw [List.mem_singleton.1 hx]; exact hok⟩, fun q e hq => ?_, fun h x hx => ?_, fun h x hx => ?_⟩
      · rw [lookv_snoc V p d q hv]
        by_cases e1 : q = p
        · rw [e1, hv] at hq; cases hq
        · rw [if_neg e1]; exact hq
      · rcases List.mem_append.1 hx with hx | hx
        · exact h x hx
        · rw [List.mem_singleton.1 hx]; exact hp
      · rw [lookv_snoc V p d x.1 hv]
        rcases List.mem_append.1 hx with hx | hx
        · rw [if_neg (lookv_none hv x hx)]; exact h x hx
        · rw [List.mem_singleton.1 hx]; simp
  · rw [if_neg hp]; exact Grown.refl _ _ _
theorem reachv_true {n : Nat} {V : List (Int × Int)} {p d : Int} (h : (reachv n V p d).1 = true) : lookv (reachv n V p d).2 p = some d := by
  unfold reachv at h ⊢
  by_cases hp : 0 ≤ p ∧ p < (n : Int)
  · rw [if_pos hp] at h ⊢
    cases hv : lookv V p with
    | some q =>
      rw [hv] at h
      simp only [decide_eq_true_eq] at h
      simp only [hv, h]
    | none =>
      simp only
      rw [lookv_snoc V p d p hv, if_pos rfl]
  · rw [if_neg hp] at h; cases h
theorem reachv_false {n : Nat} {V : List (Int × Int)} {p d : Int} (h : (reachv n V p d).1 = false) (D : Int → Option Int) (hD : ∀ x ∈ V, D x.1 = some x.2) (hr : ∀ q e, D q = some e → 0 ≤ q ∧ q < (n : Int)) : D p ≠ some d := by
  intro e
  unfold reachv at h
  rw [if_pos (hr _ _ e)] at h
  cases hv : lookv V p with
  | some q =>
    rw [hv] at h
    simp only [decide_eq_false_iff_not] at h
    have := hD _ (lookv_some hv)
    simp only at this
    rw [e] at this
    injection this with this
    exact h this.symm
  | none => rw [hv] at h; simp at h
theorem reachAll_grown (n : Nat) (d : Int) (ok : Int → Int → Prop) : ∀ (qs : List Int) (V : List (Int × Int)), (∀ q ∈ qs, ok q d) → Grown n V (reachAll n V qs d).2 ok
  | [], V, _ => by unfold reachAll; exact Grown.refl _ _ _
  | q :: qs, V, h => by
    unfold reachAll
    have h1 := reachv_grown n V q d ok (h q (by simp))
    by_cases hb : (reachv n V q d).1 = true
    · rw [if_pos hb]
      exact h1.trans (reachAll_grown n d ok qs _ (fun q hq => h q (by simp [hq])))
    · rw [if_neg hb]; exact h1
theorem reachAll_true (n : Nat) (d : Int) : ∀ (qs : List Int) (V : List (Int × Int)), (reachAll n V qs d).1 = true → ∀ q ∈ qs, lookv (reachAll n V qs d).2 q = some d
  | [], V, _ => by simp
  | q :: qs, V, h => by
    intro x hx
    unfold reachAll at h ⊢
    by_cases hb : (reachv n V q d).1 = true
    · rw [if_pos hb] at h ⊢
      rcases List.mem_cons.1 hx with rfl | hx
      · exact (reachAll_grown n d (fun _ _ => True) qs _ (fun _ _ => trivial)).keep _ _ (reachv_true hb)
      · exact reachAll_true n d qs _ h x hx
    · rw [if_neg hb] at h; cases h
theorem reachAll_weak (n : Nat) (d : Int) (D : Int → Option Int) (hr : ∀ q e, D q = some e → 0 ≤ q ∧ q < (n : Int)) : ∀ (qs : List Int) (V : List (Int × Int)), (∀ x ∈ V, D x.1 = some x.2) → (∀ q ∈ qs, D q = some d) →
    (reachAll n V qs d).1 = true ∧ ∀ x ∈ (reachAll n V qs d).2, D x.1 = some x.2
  | [], V, h, _ => by unfold reachAll; exact ⟨rfl, h⟩
  | q :: qs, V, h, hq => by
    unfold reachAll
    have hb : (reachv n V q d).1 = true := by
      cases e : (reachv n V q d).1 with
      | true => rfl
      | false => exact absurd (hq q (by simp)) (reachv_false e D h hr)
    rw [if_pos hb]
    refine reachAll_weak n d D hr qs _ (fun x hx => ?_) (fun q' h' => hq q' (by simp [h']))
    obtain ⟨E, e, hE⟩ := (reachv_grown n V q d (fun a b => a = q ∧ b = d) ⟨rfl, rfl⟩).add
    rw [e] at hx
    rcases List.mem_append.1 hx with hx | hx
    · exact h x hx
    · obtain ⟨h1, h2⟩ := hE x hx
      rw [h1, h2]
      exact hq q (by simp)

theorem WTy.range {fs : List FnR} {f : FnR} {D : Int → Option Int} (h : WTy fs f D) : ∀ q e, D q = some e → 0 ≤ q ∧ q < (f.l.length : Int) := fun q e he => (h.2 q e he).1
/-- behind the first look -/
theorem Inv.start {fs : List FnR} {f : FnR} (h : (reachv f.l.length [] 0 0).1 = true) : Inv fs f (reachv f.l.length [] 0 0).2 0 := by
  have hg := reachv_grown f.l.length [] 0 0 (fun a b => a = 0 ∧ b = 0) ⟨rfl, rfl⟩
  obtain ⟨E, e, hE⟩ := hg.add
  rw [List.nil_append] at e
  refine ⟨Nat.zero_le _, hg.range (by simp), hg.self (by simp), reachv_true h, fun j x hj _ => by omega, fun i x hx => .inl ?_, fun D hD x hx => ?_⟩
  · rw [e] at hx
    obtain ⟨h1, h2⟩ := hE x (List.mem_of_getElem? hx)
    exact Prod.ext h1 h2
  · rw [e] at hx
    obtain ⟨h1, h2⟩ := hE x hx
    rw [h1, h2]
    exact hD.1
theorem start_false {fs : List FnR} {f : FnR} (h : (reachv f.l.length [] 0 0).1 = false) (D : Int → Option Int) : ¬ WTy fs f D := fun hD => reachv_false h D (by simp) hD.range hD.1
/-- a place -/
theorem Inv.step {fs : List FnR} {f : FnR} {V : List (Int × Int)} {r : Nat} (h : Inv fs f V r) {x : Int × Int} (hx : V[r]? = some x) (ht : (placev fs f V (insAt f x.1) x.1 x.2).1 = true) : Inv fs f (placev fs f V (insAt f x.1) x.1 x.2).2 (r + 1) := by
  unfold placev at ht ⊢
  by_cases ho : okAt fs f (insAt f x.1) x.2 = true
  · rw [if_pos ho] at ht ⊢
    have hg := reachAll_grown f.l.length (behind fs (insAt f x.1) x.2) (fun a b => a ∈ succs (insAt f x.1) x.1 ∧ b = behind fs (insAt f x.1) x.2) (succs (insAt f x.1) x.1) V (fun q hq => ⟨hq, rfl⟩)
    have hall := reachAll_true f.l.length (behind fs (insAt f x.1) x.2) (succs (insAt f x.1) x.1) V ht
    obtain ⟨E, e, hE⟩ := hg.add
    have hr : r < V.length := (List.getElem?_eq_some_iff.1 hx).1
    refine ⟨?_, hg.range h.range, hg.self h.self, hg.keep _ _ h.root, fun j y hj hy => ?_, fun i y hy => ?_, fun D hD => ?_⟩
    · rw [e, List.length_append]; omega
    · rw [e, List.getElem?_append_left (by omega)] at hy
      by_cases hjr : j < r
      · obtain ⟨a1, a2⟩ := h.done j y hjr hy
        exact ⟨a1, fun q hq => hg.keep _ _ (a2 q hq)⟩
      · have : j = r := by omega
        subst this
        rw [hx] at hy
        injection hy with hy
        subst hy
        exact ⟨ho, hall⟩
    · rw [e] at hy ⊢
      by_cases hi : i < V.length
      · rw [List.getElem?_append_left hi] at hy
        rcases h.gen i y hy with h1 | ⟨j, z, hj, hz, h2⟩
        · exact .inl h1
        · exact .inr ⟨j, z, hj, by rw [List.getElem?_append_left (by omega)]; exact hz, h2⟩
      · rw [List.getElem?_append_right (by omega)] at hy
        obtain ⟨h1, h2⟩ := hE y (List.mem_of_getElem? hy)
        exact .inr ⟨r, x, by omega, by rw [List.getElem?_append_left hr]; exact hx, ho, h1, h2⟩
    · have hxm := h.weak D hD x (List.mem_of_getElem? hx)
      exact (reachAll_weak f.l.length _ D hD.range _ V (h.weak D hD) ((hD.2 _ _ hxm).2.2)).2
  · rw [if_neg ho] at ht; cases ht
theorem step_false {fs : List FnR} {f : FnR} {V : List (Int × Int)} {r : Nat} (h : Inv fs f V r) {x : Int × Int} (hx : V[r]? = some x) (ht : (placev fs f V (insAt f x.1) x.1 x.2).1 = false) (D : Int → Option Int) : ¬ WTy fs f D := fun hD => by
  have hxm := h.weak D hD x (List.mem_of_getElem? hx)
  obtain ⟨_, h2, h3⟩ := hD.2 _ _ hxm
  unfold placev at ht
  rw [if_pos h2, (reachAll_weak f.l.length _ D hD.range _ V (h.weak D hD) h3).1] at ht
  cases ht
theorem Inv.all {fs : List FnR} {f : FnR} {V : List (Int × Int)} (h : Inv fs f V V.length) : STy fs f := by
  refine ⟨V, ⟨h.root, fun p dp hp => ?_⟩, h.gen⟩
  have hm := lookv_some hp
  obtain ⟨j, hj, e⟩ := List.getElem_of_mem hm
  obtain ⟨h1, h2⟩ := h.done j (p, dp) hj (by rw [List.getElem?_eq_getElem hj, e])
  exact ⟨h.range _ hm, h1, h2⟩
end Go.Proofs.YtahmnmpfjgddpaaGreatDoor
namespace Go.Proofs.YtahmnmpfjgddpaaGreatDoor
set_option linter.unusedVariables false
set_option linter.unusedSimpArgs false
open Go.RowKit Go.Conc

theorem infoInt8 : (Tryz.prog.info? 3).map (·.bytes) = some 8 := by kernel_rfl
theorem mkChan (n : Nat) (hn : n ≤ 1048576) (w : World) : (Instr.makeChan 88 (.int .i64 (n : Int))).run Tryz.prog w = .ok (.chan (some w.heap.size)) (w.alloc (.chan n #[] false 0 0 false)) := by
  obtain ⟨i, hi, hb⟩ := Option.map_eq_some_iff.1 infoInt8
  simpa using run_makeChan (P := Tryz.prog) (w := w) Tryz.underlying88 hi .i64 n (by omega) (by rw [hb]; omega)
/-- what right asks of a function's head -/
def hdr (f : FnR) : Prop := (0 ≤ f.ps ∧ f.ps < 9) ∧ f.ps ≤ f.vs ∧ (0 ≤ f.vs ∧ f.vs < 65) ∧ (0 ≤ f.ar ∧ f.ar < 65)

theorem look_new1 {w : World} {k : Nat} {f : FnR} {A : Option Addr} {c : Nat} {B : Option Addr} {d : Nat} :
    LookIs (((w.alloc (.map #[] 0)).alloc (.chan f.l.length #[] false 0 0 false)).alloc (.cells #[.slice A k c, .string f.nm, .int .i64 f.ps, .int .i64 f.vs, .int .i64 f.ar, .slice B f.l.length d, .map (some w.heap.size), .chan (some (w.heap.size + 1))] 90)) (w.heap.size + 1 + 1) w.heap.size (w.heap.size + 1) k f A c B d [] 0 := by
  have h1 := VMap.made w
  have hc := ((Chg.refl (fun _ => False) (w.alloc (.map #[] 0))).alloc (.chan f.l.length #[] false 0 0 false)).alloc (.cells #[.slice A k c, .string f.nm, .int .i64 f.ps, .int .i64 f.vs, .int .i64 f.ar, .slice B f.l.length d, .map (some w.heap.size), .chan (some (w.heap.size + 1))] 90)
  refine ⟨?_, h1.kept hc (fun x => x), ?_, by simp, by simp, Nat.le_refl _⟩
  · unfold LookBox; exact heap_new' (by simp)
  · exact ((Chg.refl (fun _ => False) _).alloc _).heap (heap_new' (by simp)) (fun x => x)
theorem look_new2 {w : World} {k : Nat} {f : FnR} {A : Option Addr} {c : Nat} {B : Option Addr} {d : Nat} :
    LookIs (((w.alloc (.chan f.l.length #[] false 0 0 false)).alloc (.map #[] 0)).alloc (.cells #[.slice A k c, .string f.nm, .int .i64 f.ps, .int .i64 f.vs, .int .i64 f.ar, .slice B f.l.length d, .map (some (w.heap.size + 1)), .chan (some w.heap.size)] 90)) (w.heap.size + 1 + 1) (w.heap.size + 1) w.heap.size k f A c B d [] 0 := by
  have h1 := VMap.made (w.alloc (.chan f.l.length #[] false 0 0 false))
  rw [show (w.alloc (.chan f.l.length #[] false 0 0 false)).heap.size = w.heap.size + 1 by simp] at h1
  refine ⟨?_, h1.kept ((Chg.refl (fun _ => False) _).alloc _) (fun x => x), ?_, by simp, by simp, Nat.le_refl _⟩
  · unfold LookBox; exact heap_new' (by simp)
  · exact (((Chg.refl (fun _ => False) _).alloc _).alloc _).heap (heap_new' rfl) (fun x => x)

def RightP (w : World) (fs : List FnR) (f : FnR) (e : Ending) (w' : World) : Prop := ∃ b, e = .returned (.bool b) ∧ Below w.heap.size w w' ∧ (b = true → hdr f ∧ STy fs f) ∧ (b = false → ¬ (hdr f ∧ ∃ D, WTy fs f D))
set_option maxHeartbeats 4000000 in
set_option maxRecDepth 100000 in
theorem right_any {w : World} {fs : List FnR} {f : FnR} {A : Option Addr} {c : Nat} {B : Option Addr} {d : Nat} (hs : SortsIs w)
    (hfs : FnsIs w (.slice A fs.length c) fs) (hkn : fs.length ≤ 1048576) (hsrc : Src w (.slice B f.l.length d) f.l.length (insCells f.l)) (hl : f.l.length ≤ 1048576) :
    Calls Tryz.prog 18 #[.slice A fs.length c, .agg #[.string f.nm, .int .i64 f.ps, .int .i64 f.vs, .int .i64 f.ar, .slice B f.l.length d]] w fun e w' => RightP w fs f e w' := by
  obtain ⟨w0, hw0⟩ : ∃ w0, w0 = w.alloc (.cells #[.string f.nm, .int .i64 f.ps, .int .i64 f.vs, .int .i64 f.ar, .slice B f.l.length d] 31) := ⟨_, rfl⟩
  obtain ⟨P0, hP0⟩ : ∃ P0, P0 = w.heap.size := ⟨_, rfl⟩
  have hb0 : Below w.heap.size w w0 := by rw [hw0]; exact (Below.refl _ _).alloc (Nat.le_refl _) _
  have hp0 : w0.heap[P0]? = some (.cells #[.string f.nm, .int .i64 f.ps, .int .i64 f.vs, .int .i64 f.ar, .slice B f.l.length d] 31 (0, 0)) := by rw [hw0]; exact heap_new' hP0.symm
  have HB0 := Lib.hid hb0
  have HP0 := Lib.hid hp0
  have HWE := Lib.hid (And.intro hw0 hP0)
  have HS0 := Lib.hid (hs.keep hb0)
  have HF0 := Lib.hid (hfs.keep hb0)
  have HR0 := Lib.hid (hsrc.keepB hb0)
  have CI := Lib.hid (fun (n a b : Int) (w : World) => in_any n a b w)
  clear hs hfs hsrc hw0 hP0 hb0
  obtain ⟨k, hk⟩ : ∃ k, k = fs.length := ⟨_, rfl⟩
  obtain ⟨n, hn⟩ : ∃ n, n = f.l.length := ⟨_, rfl⟩
  obtain ⟨nm, hnm⟩ : ∃ nm, nm = f.nm := ⟨_, rfl⟩
  obtain ⟨ps, hps⟩ : ∃ ps, ps = f.ps := ⟨_, rfl⟩
  obtain ⟨vs, hvs⟩ : ∃ vs, vs = f.vs := ⟨_, rfl⟩
  obtain ⟨ar, har⟩ : ∃ ar, ar = f.ar := ⟨_, rfl⟩
  rw [← hnm, ← hps, ← hvs, ← har, ← hn] at hp0 HP0 HWE
  rw [← hk, ← hnm, ← hps, ← hvs, ← har, ← hn]
  rw [← hk] at hkn
  rw [← hn] at hl
  have HE := Lib.hid (And.intro hk (And.intro hn (And.intro hnm (And.intro hps (And.intro hvs har)))))
  clear hk hn hnm hps hvs har
  have x0 := cell_of_block hp0 0
  have x1 := cell_of_block hp0 1
  have x2 := cell_of_block hp0 2
  have x3 := cell_of_block hp0 3
  have x4 := cell_of_block hp0 4
  simp at x0 x1 x2 x3 x4
  clear hp0
  by_cases h1 : 0 ≤ ps ∧ ps < 9
  · by_cases h2 : ps ≤ vs
    · by_cases h3 : 0 ≤ vs ∧ vs < 65
      · by_cases h4 : 0 ≤ ar ∧ ar < 65
        · have C1 := Lib.hid (fun w => in_any ps 0 9 w)
          have C2 := Lib.hid (fun w => in_any vs 0 65 w)
          have C3 := Lib.hid (fun w => in_any ar 0 65 w)
          rw [decide_eq_true h1] at C1
          rw [decide_eq_true h3] at C2
          rw [decide_eq_true h4] at C3
          have t2 : decide (vs < ps) = false := decide_eq_false (by omega)
          have HH : Hid ((0 ≤ ps ∧ ps < 9) ∧ ps ≤ vs ∧ (0 ≤ vs ∧ vs < 65) ∧ (0 ≤ ar ∧ ar < 65)) := Lib.hid ⟨h1, h2, h3, h4⟩
          clear h1 h3 h4
          refine calls_of_wpn Tryz.func18 rfl ?_
          simp only [Tryz.ntmps18, List.size_toArray, List.length_cons, List.length_nil, Nat.reduceAdd, Nat.reduceSub, Array.replicate_succ, Array.replicate_zero, List.push_toArray, List.append_toArray, List.nil_append, List.cons_append]
          refine wpn_seq_k (fun K hK => ?_)
          go_wp2_with fail
          rw [← HWE.out.1, ← HWE.out.2]
          try clear hK
          try clear K
          refine wpn_seq_k (fun K hK => ?_)
          go_wp2_with fail
          refine (C1.out _).mono ?_; rintro e w1 ⟨rfl, rfl⟩
          go_wp2_with fail
          refine (C2.out _).mono ?_; rintro e w1 ⟨rfl, rfl⟩
          go_wp2_with fail
          refine (C3.out _).mono ?_; rintro e w1 ⟨rfl, rfl⟩
          go_wp2_with fail
          try clear hK
          try clear K
          refine wpn_seq_k (fun K hK => ?_)
          have HM := Lib.hid (fun w => mkChan n hl w)
          go_cut [5] from 30 to 38 (fun v wx => ∃ X mb cb, v = .pointer (some ⟨X, 0, none⟩) ∧ LookIs wx X mb cb k f A c B d [] 0 ∧ (w1.heap.size ≤ mb ∧ w1.heap.size ≤ cb) ∧ Below w1.heap.size w1 wx)
          case first J K' hJ hK' =>
            have hm := HM.out
            have a0 := fun o => cell_alloc x0 o
            have b0 := fun o o' => cell_alloc (cell_alloc x0 o) o'
            have a1 := fun o => cell_alloc x1 o
            have b1 := fun o o' => cell_alloc (cell_alloc x1 o) o'
            have a2 := fun o => cell_alloc x2 o
            have b2 := fun o o' => cell_alloc (cell_alloc x2 o) o'
            have a3 := fun o => cell_alloc x3 o
            have b3 := fun o o' => cell_alloc (cell_alloc x3 o) o'
            have a4 := fun o => cell_alloc x4 o
            have b4 := fun o o' => cell_alloc (cell_alloc x4 o) o'
            have hmm := fun w => run_makeMap (P := Tryz.prog) 87 w
            go_region
            · refine hK' _ _ (Met.intro (hJ _ _ ?_))
              (repeat apply Exists.intro)
              refine ⟨?rel, rfl⟩
              case rel =>
                have h := look_new1 (w := w1) (k := k) (f := f) (A := A) (c := c) (B := B) (d := d)
                rw [← HE.out.2.1, ← HE.out.2.2.1, ← HE.out.2.2.2.1, ← HE.out.2.2.2.2.1, ← HE.out.2.2.2.2.2] at h
                have hb := ((((Chg.refl (fun _ => False) w1).alloc (.map #[] 0)).alloc (.chan n #[] false 0 0 false)).alloc (.cells #[.slice A k c, .string nm, .int .i64 ps, .int .i64 vs, .int .i64 ar, .slice B n d, .map (some w1.heap.size), .chan (some (w1.heap.size + 1))] 90)).drew
                exact ⟨_, _, _, rfl, h.heap rfl, ⟨by omega, by omega⟩, hb.below (fun k h => h.elim) (Nat.le_refl _)⟩
            · refine hK' _ _ (Met.intro (hJ _ _ ?_))
              (repeat apply Exists.intro)
              refine ⟨?rel, rfl⟩
              case rel =>
                have h := look_new2 (w := w1) (k := k) (f := f) (A := A) (c := c) (B := B) (d := d)
                rw [← HE.out.2.1, ← HE.out.2.2.1, ← HE.out.2.2.2.1, ← HE.out.2.2.2.2.1, ← HE.out.2.2.2.2.2] at h
                have hb := ((((Chg.refl (fun _ => False) w1).alloc (.chan n #[] false 0 0 false)).alloc (.map #[] 0)).alloc (.cells #[.slice A k c, .string nm, .int .i64 ps, .int .i64 vs, .int .i64 ar, .slice B n d, .map (some (w1.heap.size + 1)), .chan (some w1.heap.size)] 90)).drew
                exact ⟨_, _, _, rfl, h.heap rfl, ⟨by omega, by omega⟩, hb.below (fun k h => h.elim) (Nat.le_refl _)⟩
          obtain ⟨X, mb, cb, rfl, hl5, hmc, hb5⟩ := hcut
          refine hK _ _ ?_
          have HB5 := Lib.hid hb5
          have HL5 := Lib.hid hl5
          have CR := Lib.hid (reaches_any hl5 (by rw [← HE.out.2.1]; exact hl) 0 0)
          rw [← HE.out.2.1] at CR
          try clear hK
          try clear K
          clear hl5 hb5 x0 x1 x2 x3 x4
          rcases hrv : reachv n [] 0 0 with ⟨b5, V5⟩
          rw [hrv] at CR
          simp only at CR
          refine wpn_seq_k (fun K hK => ?_)
          go_wp2_with fail
          refine CR.out.mono ?_; rintro e w6 ⟨rfl, hl6, hc6⟩
          have HMC := Lib.hid hmc
          have HB6 : Hid (Below w1.heap.size w1 w6) := Lib.hid (HB5.out.trans (hc6.below (B := w1.heap.size) (fun x hx => by rcases hx with rfl | rfl; exact hmc.1; exact hmc.2) HB5.out.size))
          have HL6 := Lib.hid hl6
          have HRV := Lib.hid hrv
          have HHD : Hid (hdr f) := Lib.hid (by
            have h := HE.out
            have := HH.out
            unfold hdr
            rw [← h.2.2.2.1, ← h.2.2.2.2.1, ← h.2.2.2.2.2]
            exact this)
          have HBW : Hid (∀ w', Below w1.heap.size w1 w' → Below w.heap.size w w') := Lib.hid (fun w' h => bel_trans HB0.out h)
          clear hl6 hc6 hrv hmc CR HL5 HB5
          cases b5 with
          | false =>
            go_wp2_with fail
            go_ret
            refine ⟨false, rfl, HBW.out _ HB6.out, (fun h => by cases h), fun _ h => ?_⟩
            obtain ⟨_, D, hD⟩ := h
            exact start_false (by rw [← HE.out.2.1, HRV.out]) D hD
          | true =>
            have HIN : Hid (Inv fs f V5 0) := Lib.hid (by
              have h := Inv.start (fs := fs) (f := f) (by rw [← HE.out.2.1, HRV.out])
              rwa [← HE.out.2.1, HRV.out] at h)
            go_wp2_with fail
            try clear hK
            try clear K
            refine wpn_block ?_
            obtain ⟨I, hI⟩ : ∃ I : Nat → Act → World → Prop, I = (fun m a w' => ∃ (V : List (Int × Int)) (r : Nat) (u6 u42 u43 u44 u45 u46 u47 u48 u49 u50 u51 u52 u53 : Value), a = ⟨#[.slice A k c, .agg #[.string nm, .int .i64 ps, .int .i64 vs, .int .i64 ar, .slice B n d], undef, .pointer (some ⟨P0, 0, none⟩), .bool false, .pointer (some ⟨X, 0, none⟩), u6, .pointer (some ⟨P0, 1, none⟩), .int .i64 ps, .bool true, .bool false, .bool false, .pointer (some ⟨P0, 1, none⟩), .int .i64 ps, .pointer (some ⟨P0, 2, none⟩), .int .i64 vs, .bool false, .bool false, .bool false, .pointer (some ⟨P0, 2, none⟩), .int .i64 vs, .bool true, .bool false, .bool false, .bool false, .pointer (some ⟨P0, 3, none⟩), .int .i64 ar, .bool true, .bool false, .bool false, u30, u31, u32, u33, u34, u35, u36, u37, u38, .pointer (some ⟨X, 0, none⟩), .bool true, .bool false, u42, u43, u44, u45, u46, u47, u48, u49, u50, u51, u52, u53], []⟩ ∧ m = n - r ∧ LookIs w' X mb cb k f A c B d V r ∧ Inv fs f V r ∧ Below w1.heap.size w1 w') := ⟨_, rfl⟩
            have HI := Lib.hid hI
            refine wpn_loop I n (by rw [hI]; exact ⟨V5, 0, _, _, _, _, _, _, _, _, _, _, _, _, _, rfl, by omega, HL6.out, HIN.out, HB6.out⟩) ?_
            intro m a wr hIn
            rw [hI] at hIn
            clear hI
            obtain ⟨V, r, u6, u42, u43, u44, u45, u46, u47, u48, u49, u50, u51, u52, u53, rfl, hm, hlr, hin, hbr⟩ := hIn
            have HLR := Lib.hid hlr
            have HIR := Lib.hid hin
            have HBR := Lib.hid hbr
            have HMM := Lib.hid hm
            have hx := hlr.box
            unfold LookBox at hx
            have x7 := cell_of_block hx 7
            simp at x7
            clear hm hlr hin hbr hx HL6 HIN HB6 HRV
            refine wpn_block ?_
            refine wpn_seq_k (fun K hK => ?_)
            go_wp2_with fail
            try clear hK
            try clear K
            refine wpn_seq ?_
            refine wpn_region ?_
            show opsn _ _ _ [0, 1, 2] _ _
            by_cases hr : r < V.length
            · rcases hxr : V[r] with ⟨p, dp⟩
              have hmem : (p, dp) ∈ V := by rw [← hxr]; exact List.getElem_mem _
              have hget : V[r]? = some (p, dp) := by rw [List.getElem?_eq_getElem hr, hxr]
              have hrg := HIR.out.range _ hmem
              have hsf := HIR.out.self _ hmem
              simp only at hrg hsf
              obtain ⟨q, rfl⟩ : ∃ q : Nat, p = (q : Int) := ⟨p.toNat, by omega⟩
              have hq : q < n := by have := HE.out.2.1; omega
              have hch : chanv V r = (chanv V r) := rfl
              have hsz : 0 < (chanv V r).size := by unfold chanv; simp; omega
              have hg0 : (chanv V r).getD 0 undef = .int .i64 (q : Int) := by
                have h1 : (chanv V r)[0]? = some (.int .i64 (q : Int)) := by
                  unfold chanv
                  rw [List.getElem?_toArray, List.getElem?_map, List.getElem?_drop, Nat.add_zero, hget]
                  rfl
                rw [Array.getD_eq_getD_getElem?, h1]
                rfl
              have hex : (chanv V r).extract 1 (chanv V r).size = chanv V (r + 1) := by
                unfold chanv
                simp
                exact List.take_of_length_le (by simp; omega)
              refine opsn_sel_buf rfl rfl (w₁ := wr) (c := cb) (z := .int .i64 0) (by simp [go_sem, execOp, rcase, Act.eval]) HLR.out.chan hsz ?_
              rw [hg0, hex]
              obtain ⟨w7, hw7⟩ : ∃ w7, w7 = wr.setChan cb f.l.length (chanv V (r + 1)) false V.length (r + 1) false := ⟨_, rfl⟩
              rw [← hw7]
              have hc7 : Chg (fun x => x = cb) wr w7 := by rw [hw7]; exact (Chg.refl (fun x => x = cb) wr).setChan (ch := cb) rfl _ _ _ _ _ _
              obtain ⟨ne1, ne2, ne3⟩ := HLR.out.ne
              have HL7 : Hid (LookIs w7 X mb cb k f A c B d V (r + 1)) := Lib.hid ⟨hc7.heap HLR.out.box (fun e => ne2 e), HLR.out.map.kept hc7 (fun e => ne3 e), by rw [hw7]; exact heap_setChan _ _ _ _ _ _ _ _ (lt_of_heap HLR.out.chan), HLR.out.nodup, HLR.out.range, by omega⟩
              have HB7 : Hid (Below w1.heap.size w1 w7) := Lib.hid (HBR.out.trans (hc7.below (B := w1.heap.size) (fun x hx => by rw [hx]; exact HMC.out.2) HBR.out.size))
              have hins : insAt f (q : Int) = f.l[q]'(by have := HE.out.2.1; omega) := by
                unfold insAt
                rw [show ((q : Int)).toNat = q by omega, List.getD_eq_getElem?_getD, List.getElem?_eq_getElem (by have := HE.out.2.1; omega)]
                rfl
              have C7 : Hid (Calls Tryz.prog 33 #[.pointer (some ⟨X, 0, none⟩), .int .i64 q] w7 fun e w' => e = .returned (.bool (placev fs f V (insAt f q) q dp).1) ∧ LookIs w' X mb cb k f A c B d (placev fs f V (insAt f q) q dp).2 (r + 1) ∧ Chg (fun x => x = mb ∨ x = cb) w7 w') := Lib.hid (by
                have h7 := HL7.out
                rw [HE.out.1] at h7
                have h := place_any h7 (HS0.out.keep HB7.out) (HF0.out.keep HB7.out) (by rw [← HE.out.1]; exact hkn) (HR0.out.keepB HB7.out) (by rw [← HE.out.2.1]; exact hl) q (by rw [← HE.out.2.1]; exact hq) dp hsf
                rw [← hins] at h
                rw [← HE.out.1] at h
                exact h)
              have HGET := Lib.hid hget
              clear hw7 hc7 ne1 ne2 ne3 hex hg0 hsz hch hsf hrg hmem hxr hget hins
              simp only [Act.put, List.setIfInBounds_toArray, List.set_cons_succ, List.set_cons_zero]
              iterate 2 (refine opsn_look rfl rfl (by go_simp; with_reducible rfl) ?_; simp only [Act.put, List.setIfInBounds_toArray, List.set_cons_succ, List.set_cons_zero])
              refine opsn_end ?_
              refine wpn_of_wp ?_
              clear x7
              rcases hpv : placev fs f V (insAt f q) q dp with ⟨bp, Vp⟩
              rw [hpv] at C7
              simp only at C7
              have HPV := Lib.hid hpv
              clear hpv
              go_wp2_with fail
              refine C7.out.mono ?_; rintro e w8 ⟨rfl, hl8, hc8⟩
              have HL8 := Lib.hid hl8
              have HB8 : Hid (Below w1.heap.size w1 w8) := Lib.hid (HB7.out.trans (hc8.below (B := w1.heap.size) (fun x hx => by rcases hx with rfl | rfl; exact HMC.out.1; exact HMC.out.2) HB7.out.size))
              clear hl8 hc8 C7
              cases bp with
              | false =>
                go_wp2_with fail
                go_ret
                refine ⟨false, rfl, HBW.out _ HB8.out, (fun h => by cases h), fun _ h => ?_⟩
                obtain ⟨_, D, hD⟩ := h
                exact step_false HIR.out HGET.out (by simp only; rw [HPV.out]) D hD
              | true =>
                have HI8 : Hid (Inv fs f Vp (r + 1)) := Lib.hid (by
                  have h := HIR.out.step HGET.out (by simp only; rw [HPV.out])
                  simp only at h
                  rwa [HPV.out] at h)
                have HLT : Hid (n - (r + 1) < m) := Lib.hid (by
                  have h1 := HLR.out.count
                  have h2 := HMM.out
                  have h3 := HE.out.2.1
                  omega)
                go_wp2_with fail
                refine ⟨n - (r + 1), HLT.out, ?_⟩
                rw [HI.out]
                exact ⟨Vp, r + 1, _, _, _, _, _, _, _, _, _, _, _, _, _, rfl, rfl, HL8.out, HI8.out, HB8.out⟩
            · have hrl : r = V.length := by have := HIR.out.le; omega
              subst hrl
              have hem : chanv V V.length = #[] := by unfold chanv; rw [List.drop_length]; rfl
              refine opsn_sel_none rfl rfl (w₁ := wr) (c := cb) (z := .int .i64 0) (by simp [go_sem, execOp, rcase, Act.eval]) (by have h := HLR.out.chan; rw [hem] at h; exact h) ?_
              simp only [Act.put, List.setIfInBounds_toArray, List.set_cons_succ, List.set_cons_zero]
              iterate 2 (refine opsn_look rfl rfl (by go_simp; with_reducible rfl) ?_; simp only [Act.put, List.setIfInBounds_toArray, List.set_cons_succ, List.set_cons_zero])
              refine opsn_end ?_
              refine wpn_of_wp ?_
              clear x7 hem
              go_wp2_with fail
              go_ret
              exact ⟨true, rfl, HBW.out _ HBR.out, fun _ => ⟨HHD.out, HIR.out.all⟩, fun h => by cases h⟩
        · have HNH : Hid (¬ hdr f) := Lib.hid (fun h => by
            have e := HE.out
            unfold hdr at h
            rw [← e.2.2.2.1, ← e.2.2.2.2.1, ← e.2.2.2.2.2] at h
            exact h4 h.2.2.2)
          have C1 := Lib.hid (fun w => in_any ps 0 9 w)
          rw [decide_eq_true h1] at C1
          have C2 := Lib.hid (fun w => in_any vs 0 65 w)
          rw [decide_eq_true h3] at C2
          have C3 := Lib.hid (fun w => in_any ar 0 65 w)
          rw [decide_eq_false h4] at C3
          clear h4
          have t2 : decide (vs < ps) = false := decide_eq_false (by omega)
          clear h1 h3
          go_enter Tryz.func18, Tryz.ntmps18
          go_upto_region 1 with fail
          rw [← HWE.out.1, ← HWE.out.2]
          go_wp2_with fail
          refine (C1.out _).mono ?_; rintro e w1 ⟨rfl, rfl⟩
          go_wp2_with fail
          refine (C2.out _).mono ?_; rintro e w1 ⟨rfl, rfl⟩
          go_wp2_with fail
          refine (C3.out _).mono ?_; rintro e w1 ⟨rfl, rfl⟩
          go_wp2_with fail
          go_ret
          exact ⟨false, rfl, HB0.out, (fun h => by cases h), fun _ h => HNH.out h.1⟩
      · have HNH : Hid (¬ hdr f) := Lib.hid (fun h => by
          have e := HE.out
          unfold hdr at h
          rw [← e.2.2.2.1, ← e.2.2.2.2.1, ← e.2.2.2.2.2] at h
          exact h3 h.2.2.1)
        have C1 := Lib.hid (fun w => in_any ps 0 9 w)
        rw [decide_eq_true h1] at C1
        have C2 := Lib.hid (fun w => in_any vs 0 65 w)
        rw [decide_eq_false h3] at C2
        have t2 : decide (vs < ps) = false := decide_eq_false (by omega)
        clear h1 h3
        go_enter Tryz.func18, Tryz.ntmps18
        go_upto_region 1 with fail
        rw [← HWE.out.1, ← HWE.out.2]
        go_wp2_with fail
        refine (C1.out _).mono ?_; rintro e w1 ⟨rfl, rfl⟩
        go_wp2_with fail
        refine (C2.out _).mono ?_; rintro e w1 ⟨rfl, rfl⟩
        go_wp2_with fail
        go_ret
        exact ⟨false, rfl, HB0.out, (fun h => by cases h), fun _ h => HNH.out h.1⟩
    · have HNH : Hid (¬ hdr f) := Lib.hid (fun h => by
        have e := HE.out
        unfold hdr at h
        rw [← e.2.2.2.1, ← e.2.2.2.2.1, ← e.2.2.2.2.2] at h
        exact h2 h.2.1)
      have C1 := Lib.hid (fun w => in_any ps 0 9 w)
      rw [decide_eq_true h1] at C1
      have t2 : decide (vs < ps) = true := decide_eq_true (by omega)
      clear h1
      go_enter Tryz.func18, Tryz.ntmps18
      go_upto_region 1 with fail
      rw [← HWE.out.1, ← HWE.out.2]
      go_wp2_with fail
      refine (C1.out _).mono ?_; rintro e w1 ⟨rfl, rfl⟩
      go_wp2_with fail
      go_ret
      exact ⟨false, rfl, HB0.out, (fun h => by cases h), fun _ h => HNH.out h.1⟩
  · have HNH : Hid (¬ hdr f) := Lib.hid (fun h => by
      have e := HE.out
      unfold hdr at h
      rw [← e.2.2.2.1, ← e.2.2.2.2.1, ← e.2.2.2.2.2] at h
      exact h1 h.1)
    have C1 := Lib.hid (fun w => in_any ps 0 9 w)
    rw [decide_eq_false h1] at C1
    clear h1
    go_enter Tryz.func18, Tryz.ntmps18
    go_upto_region 1 with fail
    rw [← HWE.out.1, ← HWE.out.2]
    go_wp2_with fail
    refine (C1.out _).mono ?_; rintro e w1 ⟨rfl, rfl⟩
    go_wp2_with fail
    go_ret
    exact ⟨false, rfl, HB0.out, (fun h => by cases h), fun _ h => HNH.out h.1⟩
end Go.Proofs.YtahmnmpfjgddpaaGreatDoor
namespace Go.Proofs.YtahmnmpfjgddpaaGreatDoor
set_option linter.unusedVariables false
set_option linter.unusedSimpArgs false
open Go.RowKit Go.Conc

def goodF (fs : List FnR) (f : FnR) : Prop := hdr f ∧ STy fs f
def CodeOk (fs : List FnR) : Prop := (1 ≤ fs.length ∧ fs.length < 34) ∧ (fs.getD 0 noFn).ps = 0 ∧ ∀ f ∈ fs, goodF fs f
theorem right_good {w : World} {fs : List FnR} {f : FnR} {e : Ending} {w' : World} (h : RightP w fs f e w') : ∃ b, e = .returned (.bool b) ∧ Below w.heap.size w w' ∧ (b = true ↔ goodF fs f) := by
  obtain ⟨b, h1, h2, h3, h4⟩ := h
  refine ⟨b, h1, h2, h3, fun hg => ?_⟩
  cases b with
  | true => rfl
  | false =>
    obtain ⟨g1, V, g2, _⟩ := hg
    exact absurd ⟨g1, _, g2⟩ (h4 rfl)

set_option maxHeartbeats 1000000 in
set_option maxRecDepth 100000 in
theorem wrong_any {w : World} {fs : List FnR} {f : FnR} {A : Option Addr} {c : Nat} {B : Option Addr} {d : Nat} {Q : Nat} (hs : SortsIs w) (hq : w.heap[Q]? = some (.cells #[.slice A fs.length c] 24 (0, 0)))
    (hfs : FnsIs w (.slice A fs.length c) fs) (hkn : fs.length ≤ 1048576) (hsrc : Src w (.slice B f.l.length d) f.l.length (insCells f.l)) (hl : f.l.length ≤ 1048576) :
    Calls Tryz.prog 17 #[.agg #[.string f.nm, .int .i64 f.ps, .int .i64 f.vs, .int .i64 f.ar, .slice B f.l.length d], .pointer (some ⟨Q, 0, none⟩)] w fun e w' => ∃ b, e = .returned (.bool b) ∧ Below w.heap.size w w' ∧ (b = false ↔ goodF fs f) := by
  obtain ⟨w0, hw0⟩ : ∃ w0, w0 = w.alloc (.cells #[.string f.nm, .int .i64 f.ps, .int .i64 f.vs, .int .i64 f.ar, .slice B f.l.length d] 31) := ⟨_, rfl⟩
  have hb0 : Below w.heap.size w w0 := by rw [hw0]; exact (Below.refl _ _).alloc (Nat.le_refl _) _
  have x0 := cell_of_block ((Below.chg hb0).heap hq (fun x => x)) 0
  obtain ⟨P0, hP0⟩ : ∃ P0, P0 = w.heap.size := ⟨_, rfl⟩
  have hp0 : w0.heap[P0]? = some (.cells #[.string f.nm, .int .i64 f.ps, .int .i64 f.vs, .int .i64 f.ar, .slice B f.l.length d] 31 (0, 0)) := by rw [hw0]; exact heap_new' hP0.symm
  have y0 := cell_of_block hp0 0
  have y1 := cell_of_block hp0 1
  have y2 := cell_of_block hp0 2
  have y3 := cell_of_block hp0 3
  have y4 := cell_of_block hp0 4
  simp at x0 y0 y1 y2 y3 y4
  have CR := Lib.hid (right_any (hs.keep hb0) (hfs.keep hb0) hkn (hsrc.keepB hb0) hl)
  have HB0 := Lib.hid hb0
  have HWE := Lib.hid (And.intro hw0 hP0)
  obtain ⟨k, hk⟩ : ∃ k, k = fs.length := ⟨_, rfl⟩
  obtain ⟨n, hn⟩ : ∃ n, n = f.l.length := ⟨_, rfl⟩
  rw [← hk, ← hn] at CR
  rw [← hk] at x0
  rw [← hn] at HWE y4
  rw [← hn]
  clear hq hfs hsrc hs hb0 hw0 hk hn hp0 hP0
  go_enter Tryz.func17, Tryz.ntmps17
  go_upto_region 1 with fail
  rw [← HWE.out.1, ← HWE.out.2]
  go_wp2_with fail
  refine CR.out.mono ?_; intro e w1 hrp
  obtain ⟨b, rfl, hb, hg⟩ := right_good hrp
  have HG := Lib.hid (And.intro (bel_trans HB0.out hb) hg)
  clear hrp hb hg
  cases b with
  | true =>
    go_wp2_with fail
    go_ret
    exact ⟨false, rfl, HG.out.1, ⟨fun _ => HG.out.2.1 (by first | rfl | trivial), fun _ => rfl⟩⟩
  | false =>
    go_wp2_with fail
    go_ret
    exact ⟨true, rfl, HG.out.1, ⟨(fun h => by cases h), fun h => absurd (HG.out.2.2 h) (by decide)⟩⟩

set_option maxHeartbeats 2000000 in
set_option maxRecDepth 100000 in
theorem vidx_any {w : World} {fs : List FnR} {A : Option Addr} {c : Nat} {Q : Nat} (hs : SortsIs w) (hq : w.heap[Q]? = some (.cells #[.slice A fs.length c] 24 (0, 0)))
    (hfs : FnsIs w (.slice A fs.length c) fs) (hkn : fs.length ≤ 1048576) (hl : ∀ f ∈ fs, f.l.length ≤ 1048576) :
    Calls Tryz.prog 34 #[.slice A fs.length c, .func (.func 17) #[] #[.pointer (some ⟨Q, 0, none⟩)]] w fun e w' => (∃ r : Int, e = .returned (.int .i64 r) ∧ (decide (0 ≤ r) = false ↔ ∀ f ∈ fs, goodF fs f)) ∧ Below w.heap.size w w' := by
  obtain ⟨n, hn⟩ : ∃ n, n = fs.length := ⟨_, rfl⟩
  have HS := Lib.hid hs
  have HQ := Lib.hid hq
  have HF := Lib.hid hfs
  have HL := Lib.hid hl
  have HN := Lib.hid hn
  have HKN := Lib.hid hkn
  rw [← hn] at hkn ⊢
  clear hs hq hfs hl hn
  go_enter Tryz.func34, Tryz.ntmps34
  go_wp2_with fail
  go_loopg [8] n (fun kk i wr => ∃ j : Nat, j ≤ n ∧ kk = n - j ∧ i = .int .i64 j ∧ Hid (∀ f ∈ fs.take j, goodF fs f) ∧ Hid (Below w.heap.size w wr))
  case atStart => exact ⟨0, by omega, rfl, rfl, Lib.hid (by simp), Lib.hid (Below.refl _ _)⟩
  case round =>
    obtain ⟨j, hj, hk, rfl, HA, HB⟩ := hrel
    have HK := Lib.hid hk
    clear hk
    by_cases hlt : j < n
    · have hjl : j < fs.length := by rw [← HN.out]; exact hlt
      obtain ⟨b, off, cap, A2, c2, e, hb, hcp, ⟨c0, c1, c2', c3, c4⟩, hsrc⟩ := (HF.out.keep HB.out).get j hjl
      injection e with e1 e2 e3
      subst e1 e3
      have htk := List.take_succ_eq_append_getElem hjl
      have hfl := HL.out _ (List.getElem_mem hjl)
      have hmem : fs[j] ∈ fs := List.getElem_mem hjl
      obtain ⟨f, hf⟩ : ∃ f, fs[j] = f := ⟨_, rfl⟩
      rw [hf] at c0 c1 c2' c3 c4 hsrc htk hfl hmem
      have CW := Lib.hid (wrong_any (w := wr) (f := f) (HS.out.keep HB.out) ((Below.chg HB.out).heap HQ.out (fun x => x)) (HF.out.keep HB.out) HKN.out hsrc hfl)
      have HTK := Lib.hid (And.intro htk hmem)
      rw [← HN.out] at hcp
      obtain ⟨n2, hn2⟩ : ∃ n2, n2 = f.l.length := ⟨_, rfl⟩
      rw [← hn2] at CW c4
      obtain ⟨nm, hnm⟩ : ∃ nm, nm = f.nm := ⟨_, rfl⟩
      obtain ⟨ps, hps⟩ : ∃ ps, ps = f.ps := ⟨_, rfl⟩
      obtain ⟨vs, hvs⟩ : ∃ vs, vs = f.vs := ⟨_, rfl⟩
      obtain ⟨ar, har⟩ : ∃ ar, ar = f.ar := ⟨_, rfl⟩
      rw [← hnm, ← hps, ← hvs, ← har] at CW
      rw [← hnm] at c0
      rw [← hps] at c1
      rw [← hvs] at c2'
      rw [← har] at c3
      clear hnm hps hvs har hn2 hf htk hsrc hfl hmem hjl e2
      go_wp2_with fail
      refine CW.out.mono ?_; rintro e w1 ⟨h, rfl, hb1, hg⟩
      have HB1 := Lib.hid (bel_trans HB.out hb1)
      have HG := Lib.hid hg
      clear hb1 c0 c1 c2' c3 c4 hg
      cases h with
      | true =>
        go_wp2_with fail
        go_ret
        refine ⟨⟨j, rfl, ?_⟩, HB1.out⟩
        rw [decide_eq_true (by omega)]
        refine ⟨(fun h => by cases h), fun h => ?_⟩
        exact absurd (HG.out.2 (h _ HTK.out.2)) (by decide)
      | false =>
        have HA1 : Hid (∀ f ∈ fs.take (j + 1), goodF fs f) := Lib.hid (fun f' hf' => by
          rw [HTK.out.1] at hf'
          rcases List.mem_append.1 hf' with hf' | hf'
          · exact HA.out f' hf'
          · rw [List.mem_singleton.1 hf']; exact HG.out.1 rfl)
        go_wp2_with fail
        go_roundg (n - (j + 1))
        case measure => have := HK.out; omega
        case rel => exact ⟨j + 1, by omega, rfl, by go_num, HA1, HB1⟩
    · go_wp2_with fail
      go_ret
      have e : j = fs.length := by have := HN.out; omega
      have h2 := HA.out
      rw [e, List.take_length] at h2
      exact ⟨⟨-1, rfl, ⟨fun _ => h2, fun _ => by decide⟩⟩, HB.out⟩
set_option maxRecDepth 100000 in
theorem vcontains_any {w : World} {fs : List FnR} {A : Option Addr} {c : Nat} {Q : Nat} (hs : SortsIs w) (hq : w.heap[Q]? = some (.cells #[.slice A fs.length c] 24 (0, 0)))
    (hfs : FnsIs w (.slice A fs.length c) fs) (hkn : fs.length ≤ 1048576) (hl : ∀ f ∈ fs, f.l.length ≤ 1048576) :
    Calls Tryz.prog 20 #[.slice A fs.length c, .func (.func 17) #[] #[.pointer (some ⟨Q, 0, none⟩)]] w fun e w' => (∃ b, e = .returned (.bool b) ∧ (b = false ↔ ∀ f ∈ fs, goodF fs f)) ∧ Below w.heap.size w w' := by
  have C := Lib.hid (vidx_any hs hq hfs hkn hl)
  clear hs hq hfs hl
  obtain ⟨n, hn⟩ : ∃ n, n = fs.length := ⟨_, rfl⟩
  rw [← hn] at C ⊢
  clear hn hkn
  go_enter Tryz.func20, Tryz.ntmps20
  go_wp2_with fail
  refine C.out.mono ?_; rintro e w1 ⟨⟨z, rfl, hz⟩, hb1⟩
  have HZ := Lib.hid hz
  have HB := Lib.hid hb1
  clear hz hb1
  go_wp2_with fail
  go_ret
  exact ⟨⟨_, rfl, HZ.out⟩, HB.out⟩

open Classical in
noncomputable def codev (fs : List FnR) : Int := if CodeOk fs then 0 else 6
theorem codev_ok {fs : List FnR} (h : CodeOk fs) : codev fs = 0 := by unfold codev; rw [if_pos h]
theorem codev_no {fs : List FnR} (h : ¬ CodeOk fs) : codev fs = 6 := by unfold codev; rw [if_neg h]

set_option maxHeartbeats 2000000 in
set_option maxRecDepth 100000 in
theorem code_any {w : World} {fs : List FnR} {A : Option Addr} {c : Nat} (hs : SortsIs w) (hfs : FnsIs w (.slice A fs.length c) fs) (hkn : fs.length ≤ 1048576) (hl : ∀ f ∈ fs, f.l.length ≤ 1048576) :
    Calls Tryz.prog 6 #[.agg #[.slice A fs.length c]] w fun e w' => e = .returned (.int .i64 (codev fs)) ∧ Below w.heap.size w w' := by
  obtain ⟨w0, hw0⟩ : ∃ w0, w0 = w.alloc (.cells #[.slice A fs.length c] 24) := ⟨_, rfl⟩
  obtain ⟨Q, hQ⟩ : ∃ Q, Q = w.heap.size := ⟨_, rfl⟩
  have hb0 : Below w.heap.size w w0 := by rw [hw0]; exact (Below.refl _ _).alloc (Nat.le_refl _) _
  have hq0 : w0.heap[Q]? = some (.cells #[.slice A fs.length c] 24 (0, 0)) := by rw [hw0]; exact heap_new' hQ.symm
  have CC := Lib.hid (vcontains_any (hs.keep hb0) hq0 (hfs.keep hb0) hkn hl)
  have x0 := cell_of_block hq0 0
  simp at x0
  obtain ⟨z, hz⟩ : ∃ z, z = codev fs := ⟨_, rfl⟩
  rw [← hz]
  have HZ := Lib.hid hz
  have HB0 := Lib.hid hb0
  have HWE := Lib.hid (And.intro hw0 hQ)
  have HF0 := Lib.hid (hfs.keep hb0)
  obtain ⟨n, hn⟩ : ∃ n, n = fs.length := ⟨_, rfl⟩
  have CI := Lib.hid (in_any (fs.length : Int) 1 34 w0)
  rw [← hn] at CC CI HWE x0 hkn ⊢
  have HN := Lib.hid hn
  clear hs hfs hl hw0 hQ hb0 hq0 hz hn
  by_cases h1 : (1 : Int) ≤ (n : Int) ∧ (n : Int) < 34
  · rw [decide_eq_true h1] at CI
    obtain ⟨b, off, cap, A2, c2, e, hb, hcp, ⟨_, g1, _, _, _⟩, _⟩ := HF0.out.get 0 (by have := HN.out; omega)
    injection e with e1 e2 e3
    subst e1 e3
    simp only [Nat.zero_mul, Nat.add_zero] at g1
    obtain ⟨ps, hps⟩ : ∃ ps, ps = (fs[0]'(by have := HN.out; omega)).ps := ⟨_, rfl⟩
    rw [← hps] at g1
    rw [← HN.out] at hcp
    have hps2 : (fs.getD 0 noFn).ps = ps := by
      rw [hps, List.getD_eq_getElem?_getD, List.getElem?_eq_getElem (by have := HN.out; omega)]
      rfl
    have HPS := Lib.hid hps2
    have H1 := Lib.hid h1
    have h1n : 0 < n := by omega
    clear hps hps2 e2
    by_cases h2 : ps = 0
    · subst h2
      go_enter Tryz.func6, Tryz.ntmps6
      go_upto_region 2 with fail
      rw [← HWE.out.1, ← HWE.out.2]
      go_wp2_with fail
      refine CI.out.mono ?_; rintro e w1 ⟨rfl, rfl⟩
      go_wp2_with fail
      refine CC.out.mono ?_; rintro e w2 ⟨⟨bb, rfl, hbb⟩, hb2⟩
      have HB2 := Lib.hid (And.intro (bel_trans HB0.out hb2) hbb)
      clear hbb hb2
      cases bb with
      | true =>
        obtain rfl : z = 6 := by
          rw [HZ.out]
          exact codev_no (fun h => absurd (HB2.out.2.2 h.2.2) (by decide))
        go_wp2_with fail
        go_ret
        exact ⟨rfl, HB2.out.1⟩
      | false =>
        obtain rfl : z = 0 := by
          rw [HZ.out]
          exact codev_ok ⟨by have := H1.out; have := HN.out; omega, HPS.out, HB2.out.2.1 rfl⟩
        go_wp2_with fail
        go_ret
        exact ⟨rfl, HB2.out.1⟩
    · obtain rfl : z = 6 := by
        rw [HZ.out]
        exact codev_no (fun h => h2 (by rw [← HPS.out]; exact h.2.1))
      have t2 : (ps == 0) = false := by rw [beq_eq_false_iff_ne]; exact h2
      have t3 : (ps != 0) = true := by rw [bne, t2]; rfl
      go_enter Tryz.func6, Tryz.ntmps6
      go_upto_region 2 with fail
      rw [← HWE.out.1, ← HWE.out.2]
      go_wp2_with fail
      refine CI.out.mono ?_; rintro e w1 ⟨rfl, rfl⟩
      go_wp2_with fail
      go_ret
      exact ⟨rfl, HB0.out⟩
  · rw [decide_eq_false h1] at CI
    obtain rfl : z = 6 := by
      rw [HZ.out]
      exact codev_no (fun h => h1 (by have := h.1; have := HN.out; omega))
    clear h1
    go_enter Tryz.func6, Tryz.ntmps6
    go_upto_region 2 with fail
    rw [← HWE.out.1, ← HWE.out.2]
    go_wp2_with fail
    refine CI.out.mono ?_; rintro e w1 ⟨rfl, rfl⟩
    go_wp2_with fail
    go_ret
    exact ⟨rfl, HB0.out⟩
end Go.Proofs.YtahmnmpfjgddpaaGreatDoor
