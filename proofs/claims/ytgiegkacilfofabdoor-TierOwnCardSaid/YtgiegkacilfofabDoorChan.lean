/- Channels of one goroutine inside a walk by 'wp': 'wpn' is 'wp' in the frames of ordinary calls; a region that sends or selects has rules of its own. -/
import Derived.Test.YtgiegkacilfofabDoorOrd
import Derived.WalkKit
import Derived.Conc.LoneSelect
namespace Go.Proofs.YtgiegkacilfofabDoor
set_option linter.unusedVariables false
set_option linter.unusedSimpArgs false
open Go.Conc

/-- 'wp' in a frame of an ordinary call -/
def wpn (P : Program) (c : Code) (Q : Exit → Act → World → Prop) (a : Act) (w : World) : Prop :=
  ∀ (b : Frame), b.kind = .normal → ∀ (k : List Item) (cs : List Frame), ∃ e a' w', Q e a' w' ∧ Arrives P (lone (b.at a (.code c :: k)) cs w) b k cs e a' w'
def opsn (P : Program) (ops : Array Oper) (Q : Exit → Act → World → Prop) (l : List Nat) (a : Act) (w : World) : Prop :=
  ∀ (b : Frame), b.kind = .normal → ∀ (k : List Item) (cs : List Frame), ∃ e a' w', Q e a' w' ∧ Arrives P (lone (b.at a (.inRegion ops l :: k)) cs w) b k cs e a' w'

section
variable {P : Program} {Q : Exit → Act → World → Prop} {a : Act} {w : World} {ops : Array Oper}
theorem wpn_of_wp {c : Code} (h : c.wp P Q a w) : wpn P c Q a w := fun b _ k cs => h b k cs
theorem opsn_of_wp {l : List Nat} (h : wpOps P ops Q l a w) : opsn P ops Q l a w := fun b _ k cs => wp_ops l a w h b k cs
theorem wpn_seq {x y : Code} (h : wpn P x (Exit.then (wpn P y Q) Q) a w) : wpn P (Code.seq x y) Q a w := by
  intro b hb k cs
  obtain ⟨e, a₁, w₁, hq, harr⟩ := h b hb (.code y :: k) cs
  cases e with
  | normal =>
    obtain ⟨e₂, a₂, w₂, hq₂, harr₂⟩ := hq b hb k cs
    exact ⟨e₂, a₂, w₂, hq₂, .of_steps (.head step_seq harr) harr₂⟩
  | exit id => exact ⟨_, a₁, w₁, hq, .of_steps (.one step_seq) (.pass (x := .code y) rfl (fun _ _ => .inl (by simp)) harr)⟩
  | goto l => exact ⟨_, a₁, w₁, hq, .of_steps (.one step_seq) (.pass (x := .code y) rfl (fun _ _ => .inl (by simp)) harr)⟩
  | ret => exact ⟨_, a₁, w₁, hq, .of_steps (.one step_seq) (.pass (x := .code y) rfl (fun _ _ => .inl (by simp)) harr)⟩
  | panic ch => exact ⟨_, a₁, w₁, hq, .of_steps (.one step_seq) (.pass (x := .code y) rfl (fun _ _ => .inl (by simp)) harr)⟩
  | outgrown => exact ⟨_, a₁, w₁, hq, .of_steps (.one step_seq) (.pass (x := .code y) rfl (fun _ _ => .inl (by simp)) harr)⟩
/-- the first part is walked by the kit's words, the second one in 'wpn' -/
theorem wpn_seq_k {x y : Code} (h : ∀ K : Act → World → Prop, (∀ a w, wpn P y Q a w → K a w) → x.wp P (Exit.then K Q) a w) : wpn P (Code.seq x y) Q a w :=
  wpn_seq (wpn_of_wp (h _ fun _ _ h => h))
theorem wpn_mono {c : Code} {Q' : Exit → Act → World → Prop} (h : wpn P c Q a w) (hq : ∀ e a w, Q e a w → Q' e a w) : wpn P c Q' a w :=
  fun b hb k cs => let ⟨e, a', w', q, r⟩ := h b hb k cs; ⟨e, a', w', hq _ _ _ q, r⟩
theorem wpn_cond {c : Operand} {x y : Code} {t : Bool} (hc : a.eval c = .bool t) (h : wpn P (if t then x else y) Q a w) : wpn P (Code.cond c x y) Q a w :=
  fun b hb k cs => let ⟨e, a', w', q, r⟩ := h b hb k cs; ⟨e, a', w', q, .of_steps (.one (step_cond hc)) r⟩
theorem wpn_block {id : Nat} {c : Code} (h : wpn P c (Exit.inBlock id Q) a w) : wpn P (Code.block id c) Q a w := by
  intro b hb k cs
  obtain ⟨e, a₁, w₁, hq, harr⟩ := h b hb (.inBlock id :: k) cs
  cases e with
  | normal => exact ⟨.normal, a₁, w₁, hq, .head step_block (Steps.trans harr (.one step_inBlock))⟩
  | exit id' =>
    by_cases hid : id' = id
    · simp only [Exit.inBlock, hid, if_true] at hq
      exact ⟨.normal, a₁, w₁, hq, .head step_block (harr k (by simp [exitTo, hid]))⟩
    · simp only [Exit.inBlock, hid, if_false] at hq
      refine ⟨.exit id', a₁, w₁, hq, fun k' hk => .head step_block (harr k' ?_)⟩
      have : (id == id') = false := by simp; exact fun h => hid h.symm
      simp [exitTo, this, hk]
  | goto l => exact ⟨_, a₁, w₁, hq, fun k' hk => .head step_block (harr k' (by simp [gotoIn, hk]))⟩
  | ret => exact ⟨_, a₁, w₁, hq, .of_steps (.one step_block) harr⟩
  | panic ch => exact ⟨_, a₁, w₁, hq, .of_steps (.one step_block) harr⟩
  | outgrown => exact ⟨_, a₁, w₁, hq, .of_steps (b := b) (k := k) (cs := cs) (e := .outgrown) (.one step_block) harr⟩
theorem wpn_loop {c : Code} (I : Nat → Act → World → Prop) (n : Nat) (h₀ : I n a w)
    (round : ∀ n a w, I n a w → wpn P c (Exit.then (fun a' w' => ∃ m, m < n ∧ I m a' w') Q) a w) : wpn P (Code.loop c) Q a w := by
  intro b hb k cs
  have key : ∀ n a w, I n a w →
      ∃ e a' w', Q e a' w' ∧ Arrives P (lone (b.at a (.code c :: .inLoop c :: k)) cs w) b k cs e a' w' := by
    intro n
    induction n using Nat.strongRecOn with
    | _ n ih =>
      intro a w hI
      obtain ⟨e, a₁, w₁, hq, harr⟩ := round n a w hI b hb (.inLoop c :: k) cs
      cases e with
      | normal =>
        obtain ⟨m, hlt, hI₁⟩ := hq
        obtain ⟨e₂, a₂, w₂, hq₂, harr₂⟩ := ih m hlt a₁ w₁ hI₁
        exact ⟨e₂, a₂, w₂, hq₂, .of_steps (Steps.trans harr (.one step_inLoop)) harr₂⟩
      | exit id => exact ⟨_, a₁, w₁, hq, .pass (x := .inLoop c) rfl (fun _ _ => .inl (by simp)) harr⟩
      | goto l => exact ⟨_, a₁, w₁, hq, .pass (x := .inLoop c) rfl (fun _ _ => .inl (by simp)) harr⟩
      | ret => exact ⟨_, a₁, w₁, hq, .pass (x := .inLoop c) rfl (fun _ _ => .inl (by simp)) harr⟩
      | panic ch => exact ⟨_, a₁, w₁, hq, .pass (x := .inLoop c) rfl (fun _ _ => .inl (by simp)) harr⟩
      | outgrown => exact ⟨_, a₁, w₁, hq, .pass (x := .inLoop c) rfl (fun _ _ => .inl (by simp)) harr⟩
  obtain ⟨e, a', w', hq, harr⟩ := key n a w h₀
  exact ⟨e, a', w', hq, .of_steps (.one step_loop) harr⟩
theorem wpn_region {id : Nat} (h : opsn P ops Q (List.range ops.size) a w) : wpn P (Code.region id ops false) Q a w :=
  fun b hb k cs => let ⟨e, a', w', q, r⟩ := h b hb k cs; ⟨e, a', w', q, .of_steps (.one step_region) r⟩
theorem wpn_region_draw {id : Nat} (h : ∀ t, opsn P ops Q (Region.schedule (P.follows .mixedOrders) ops t) a w.drew) : wpn P (Code.region id ops true) Q a w :=
  fun b hb k cs => let ⟨e, a', w', q, r⟩ := h _ b hb k cs; ⟨e, a', w', q, .of_steps (.one step_region_draw) r⟩

theorem opsn_end (h : Q .normal a w) : opsn P ops Q [] a w := fun b _ k cs => ⟨.normal, a, w, h, .one step_region_end⟩
/-- an operation that yields a value -/
theorem opsn_val {i : Nat} {rest : List Nat} {o : Oper} {v : Value} {w' : World} (ho : nth ops.toList i = some o) (hw : Region.wanted o (yielded ops a.tmps) = true)
    (hr : (execOp a.eval o).run P w = .ok (.value v) w') (h : opsn P ops Q rest (a.put o.dst v) w') : opsn P ops Q (i :: rest) a w := by
  intro b hb k cs
  obtain ⟨e, a', w₂, hq, harr⟩ := h b hb k cs
  have ho := ops_of_nth ho
  refine ⟨e, a', w₂, hq, .of_steps (.one (step_lone_go ?_)) harr⟩
  have hfin : (b.at a (.inRegion ops (i :: rest) :: k)).finish v = b.at (a.put o.dst v) (.inRegion ops rest :: k) := by rw [Frame.finish_at, ho]; rfl
  rw [stepG_op ho hw, ← hfin]
  simp [stepG.apply, hr]
/-- one that only looks -/
theorem opsn_look {i : Nat} {rest : List Nat} {o : Oper} {v : Value} (ho : nth ops.toList i = some o) (hw : Region.wanted o (yielded ops a.tmps) = true)
    (hr : (execOp a.eval o).run P w = .ok (.value v) w) (h : opsn P ops Q rest (a.put o.dst v) w) : opsn P ops Q (i :: rest) a w := opsn_val ho hw hr h
/-- a step of the machine that hands the operation a value -/
theorem opsn_step {i : Nat} {rest : List Nat} {o : Oper} {v : Value} {w' : World} (ho : nth ops.toList i = some o)
    (hs : ∀ (b : Frame), b.kind = .normal → ∀ k cs, step P (solo (G (b.at a (.inRegion ops (i :: rest) :: k)) cs) w) = .next (solo (G ((b.at a (.inRegion ops (i :: rest) :: k)).finish v) cs) w'))
    (h : opsn P ops Q rest (a.put o.dst v) w') : opsn P ops Q (i :: rest) a w := by
  intro b hb k cs
  obtain ⟨e, a', w₂, hq, harr⟩ := h b hb k cs
  have ho := ops_of_nth ho
  refine ⟨e, a', w₂, hq, .of_steps (.one ?_) harr⟩
  have hfin : (b.at a (.inRegion ops (i :: rest) :: k)).finish v = b.at (a.put o.dst v) (.inRegion ops rest :: k) := by rw [Frame.finish_at, ho]; rfl
  rw [← hfin, lone_eq_solo, lone_eq_solo]
  exact hs b hb k cs
/-- a send with room -/
theorem opsn_send {i : Nat} {rest : List Nat} {o : Oper} {c cap s r : Nat} {buf : Array Value} {v z : Value} {w₁ : World} (ho : nth ops.toList i = some o) (hw : Region.wanted o (yielded ops a.tmps) = true)
    (hr : (execOp a.eval o).run P w = .ok (.comm #[scase c v z] true .send) w₁) (hc : w₁.heap[c]? = some (.chan cap buf false s r false)) (hroom : buf.size < cap)
    (h : opsn P ops Q rest (a.put o.dst undef) (w₁.setChan c cap (buf.push v) false (s + 1) r false)) : opsn P ops Q (i :: rest) a w :=
  opsn_step ho (fun b hb k cs => step_lone_send_room (stepG_comm (ops_of_nth ho) hw (by rw [hb]; decide) hr) hc hroom) h
/-- a select of one receive with a default: something lies there -/
theorem opsn_sel_buf {i : Nat} {rest : List Nat} {o : Oper} {c cap s r : Nat} {buf : Array Value} {z : Value} {w₁ : World} (ho : nth ops.toList i = some o) (hw : Region.wanted o (yielded ops a.tmps) = true)
    (hr : (execOp a.eval o).run P w = .ok (.comm #[rcase c z] false .select) w₁) (hc : w₁.heap[c]? = some (.chan cap buf false s r false)) (hsome : 0 < buf.size)
    (h : opsn P ops Q rest (a.put o.dst (.tuple #[goInt 0, .bool true, buf.getD 0 undef])) (w₁.setChan c cap (buf.extract 1 buf.size) false s (r + 1) false)) : opsn P ops Q (i :: rest) a w :=
  opsn_step ho (fun b hb k cs => step_lone_select_recv_buf (stepG_comm (ops_of_nth ho) hw (by rw [hb]; decide) hr) hc hsome) h
/-- .. nothing does: the default -/
theorem opsn_sel_none {i : Nat} {rest : List Nat} {o : Oper} {c cap s r : Nat} {z : Value} {w₁ : World} (ho : nth ops.toList i = some o) (hw : Region.wanted o (yielded ops a.tmps) = true)
    (hr : (execOp a.eval o).run P w = .ok (.comm #[rcase c z] false .select) w₁) (hc : w₁.heap[c]? = some (.chan cap #[] false s r false))
    (h : opsn P ops Q rest (a.put o.dst (.tuple #[goInt (-1), .bool false, z])) w₁) : opsn P ops Q (i :: rest) a w :=
  opsn_step ho (fun b hb k cs => step_lone_select_default (stepG_comm (ops_of_nth ho) hw (by rw [hb]; decide) hr) hc) h
end

theorem calls_of_wpn {P : Program} {f : FuncId} {fn : Func} {c : Code} {args : Array Value} {w : World} {R : Ending → World → Prop}
    (hf : P.funcs[f]? = some fn) (hb : fn.body = some c)
    (h : wpn P c (bodyPost P fn R) { tmps := args ++ Array.replicate (fn.ntmps - args.size) undef, defers := [] } w) :
    Calls P f args w R := by
  intro cs
  let b : Frame := { (default : Frame) with fn := f, kind := .normal }
  have henter : Frame.enter P f args .normal =
      b.at { tmps := args ++ Array.replicate (fn.ntmps - args.size) undef, defers := [] } [.code c] := by
    simp [Frame.enter, Frame.at, hf, hb, b]
  obtain ⟨e, a', w', hq, harr⟩ := h b rfl [] cs
  rw [← henter] at harr
  cases e with
  | normal =>
    obtain ⟨hd, v, hr, hR⟩ := hq
    exact ⟨.returned v, w', _, hR, Steps.trans harr (.one step_end), rfl, rfl, hd, rfl, fn, hf, hr⟩
  | ret =>
    obtain ⟨hd, v, hr, hR⟩ := hq
    obtain ⟨todo, hs⟩ := harr
    exact ⟨.returned v, w', _, hR, hs, rfl, rfl, hd, rfl, fn, hf, hr⟩
  | panic chain =>
    obtain ⟨hd, hR⟩ := hq
    obtain ⟨todo, hs⟩ := harr
    exact ⟨.panicked chain, w', _, hR, hs, rfl, rfl, hd, fn, hf⟩
  | exit id => exact hq.elim
  | goto l => exact hq.elim
  | outgrown => exact ⟨.outgrown, w', b, hq, harr.resolve_left (by simp [b]), rfl, trivial⟩
end Go.Proofs.YtgiegkacilfofabDoor
