/- A region that draws its order, told in one order: its operations that only look ('true') are taken as soon as they may come; one that acts ('false') when it alone may come. 'N i': behind operation i the condition S on the world is shown anew (owed where an operation that looks could come later). -/
import Derived.Test.YtgiegkacilfofabDoorBase
import Derived.OrdersHeld
namespace Go.Proofs.YtgiegkacilfofabDoor
set_option linter.unusedVariables false
set_option linter.unusedSimpArgs false
open Go

/-- the i-th of a list: what is told by it is told whole -/
def nth {α : Type} : List α → Nat → Option α
  | [], _ => none
  | x :: _, 0 => some x
  | _ :: l, n + 1 => nth l n
theorem nth_eq {α : Type} : ∀ (l : List α) (i : Nat), nth l i = l[i]?
  | [], _ => by simp [nth]
  | _ :: _, 0 => by simp [nth]
  | _ :: l, n + 1 => by simp [nth, nth_eq l n]
theorem ops_of_nth {ops : Array Oper} {i : Nat} {o : Oper} (h : nth ops.toList i = some o) : ops[i]? = some o := by
  rw [nth_eq] at h
  simpa using h

section
variable {P : Program} {ops : Array Oper} {Q : Exit → Act → World → Prop} {md : Region.Mode} {S : World → Prop} {N : Nat → Bool}

def wpAnyN (P : Program) (md : Region.Mode) (ops : Array Oper) (Q : Exit → Act → World → Prop) (S : World → Prop) (N : Nat → Bool) : Nat → Array Bool → Act → World → Prop
  | 0, listed, a, w => Region.ready md ops listed = [] ∧ Q .normal a w
  | fuel + 1, listed, a, w =>
    (Region.ready md ops listed = [] → Q .normal a w) ∧
    ∀ i ∈ Region.ready md ops listed, wpOp P ops Q i (fun a' w' => (N i = true → S w') ∧ wpAnyN P md ops Q S N fuel (listed.setIfInBounds i true) a' w') a w

theorem wpAny_of_N : ∀ (fuel : Nat) (listed : Array Bool) (a : Act) (w : World), wpAnyN P md ops Q S N fuel listed a w → wpAny P md ops Q fuel listed a w
  | 0, _, _, _, h => h
  | fuel + 1, _, _, _, h => ⟨h.1, fun i hi => wpOp_mono (fun a' w' h' => wpAny_of_N fuel _ a' w' h'.2) (h.2 i hi)⟩

theorem wpAnyN_first {i : Nat} {oi : Oper} {v : Value} (X : Nat → Prop) (hX : ∀ j, X j → ∀ oj, ops[j]? = some oj → ∃ e ∈ oj.after, Region.binds md e = true ∧ (e.on = i ∨ X e.on))
    (hi : ops[i]? = some oi) (hsel : ∀ (j : Nat) (o : Oper) cs b, ops[j]? = some o → o.op ≠ .select cs b)
    (hQ : ∀ c a w, Q (.panic c) (a.put oi.dst v) w → Q (.panic c) a w) :
    ∀ (fuel : Nat) (listed : Array Bool) (a : Act) (w : World), (∀ j, X j → listed.getD j false = false) →
      (∀ j oj, ops[j]? = some oj → j ≠ i → listed.getD j true = false → ¬ X j → oi.apart ops oj = true ∧ N j = true) →
      i ∈ Region.ready md ops listed → YieldsIf P ops S oi v a → S w →
      wpAnyN P md ops Q S N fuel (listed.setIfInBounds i true) (a.put oi.dst v) w → wpAnyN P md ops Q S N (fuel + 1) listed a w := by
  intro fuel
  induction fuel with
  | zero =>
    intro listed a w _ _ hr hy hS H
    refine ⟨fun h => (by rw [h] at hr; cases hr), fun j hj => ?_⟩
    by_cases hji : j = i
    · subst hji; exact hy.wpOp hi hS ⟨fun _ => hS, H⟩
    · have := ready_mono hj hji
      rw [H.1] at this
      cases this
  | succ fuel ih =>
    intro listed a w hXl hfree hr hy hS H
    refine ⟨fun h => (by rw [h] at hr; cases hr), fun j hj => ?_⟩
    by_cases hji : j = i
    · subst hji; exact hy.wpOp hi hS ⟨fun _ => hS, H⟩
    · have h1 := H.2 j (ready_mono hj hji)
      obtain ⟨hjun, oj, hoj, hall⟩ := mem_ready.1 hj
      have hi0 : listed.getD i false = false := by
        have h0 := (mem_ready.1 hr).1
        rcases Nat.lt_or_ge i listed.size with h' | h'
        · simpa [h'] using h0
        · simp [Array.getElem?_eq_none h']
      have hnX : ¬ X j := fun hx => by
        obtain ⟨e, he, hb, hon⟩ := hX j hx oj hoj
        have h2 := hall e he hb
        rcases hon with hon | hon
        · rw [hon, hi0] at h2; cases h2
        · rw [hXl _ hon] at h2; cases h2
      have hfj := hfree j oj hoj hji hjun hnX
      have h2 := wpOp_putIf hoj hfj.1 (fun cs b => hsel i oi cs b hi) (fun cs b => hsel j oj cs b hoj) hQ hy h1
      have hXl' : ∀ k, X k → (listed.setIfInBounds j true).getD k false = false := fun k hk => by
        rw [getD_set_ne false (show j ≠ k from fun e => hnX (by rw [e]; exact hk))]
        exact hXl k hk
      have hfree' : ∀ k ok, ops[k]? = some ok → k ≠ i → (listed.setIfInBounds j true).getD k true = false →
          ¬ X k → oi.apart ops ok = true ∧ N k = true := fun k ok hk hki hun hno => by
        refine hfree k ok hk hki ?_ hno
        by_cases hjk : j = k
        · subst hjk; exact hjun
        · rw [getD_set_ne true hjk] at hun; exact hun
      refine wpOp_mono (fun a' w' h3 => ⟨h3.2.1, ih (listed.setIfInBounds j true) a' w' hXl' hfree' (ready_mono hr (Ne.symm hji)) h3.1 (h3.2.1 hfj.2) ?_⟩) h2
      rw [Array.setIfInBounds_comm _ _ hji]
      exact h3.2.2

/-- those that wait for operation i -/
def waits (md : Region.Mode) (ops : Array Oper) (i : Nat) : List Nat :=
  (List.range ops.size).foldl (fun acc j => match ops[j]? with
    | some o => if o.after.any (fun e => Region.binds md e && (e.on == i || acc.contains e.on)) then j :: acc else acc
    | none => acc) []
/-- nobody who could come ahead of operation i touches its temporaries, and behind each of those S is shown -/
def freeN (md : Region.Mode) (ops : Array Oper) (N : Nat → Bool) (listed : Array Bool) (i : Nat) (X : List Nat) : Bool :=
  match ops[i]? with
  | none => false
  | some oi =>
    (X.all fun j => !listed.getD j false && match ops[j]? with
      | some o => o.after.any (fun e => Region.binds md e && (e.on == i || X.contains e.on))
      | none => true) &&
    (List.range ops.size).all fun j => j == i || listed.getD j true || X.contains j || match ops[j]? with
      | some oj => oi.apart ops oj && N j
      | none => true

theorem freeN_spec {i : Nat} {oi : Oper} {listed : Array Bool} {X : List Nat} (hi : ops[i]? = some oi) (h : freeN md ops N listed i X = true) :
    (∀ j, j ∈ X → ∀ oj, ops[j]? = some oj → ∃ e ∈ oj.after, Region.binds md e = true ∧ (e.on = i ∨ e.on ∈ X)) ∧ (∀ j, j ∈ X → listed.getD j false = false) ∧
    ∀ j oj, ops[j]? = some oj → j ≠ i → listed.getD j true = false → ¬ j ∈ X → oi.apart ops oj = true ∧ N j = true := by
  simp only [freeN, hi, Bool.and_eq_true, List.all_eq_true, List.mem_range] at h
  obtain ⟨h1, h2⟩ := h
  refine ⟨fun j hj oj hoj => ?_, fun j hj => ?_, fun j oj hoj hne hun hx => ?_⟩
  · have := (h1 j hj).2
    simp only [hoj, Array.any_eq_true', Bool.and_eq_true, Bool.or_eq_true, beq_iff_eq, List.contains_iff_mem] at this
    exact this
  · have := (h1 j hj).1
    simpa using this
  · have := h2 j (Array.getElem?_eq_some_iff.1 hoj).1
    simp only [hoj, hun, Bool.or_false, Bool.or_eq_true, beq_iff_eq, Bool.and_eq_true, List.contains_iff_mem] at this
    rcases this with (h3 | h3) | h3
    · exact absurd h3 hne
    · exact absurd h3 hx
    · exact h3

/-- the order: an operation's number, and whether it only looks -/
def ordOk (md : Region.Mode) (ops : Array Oper) (N : Nat → Bool) : List (Nat × Bool) → Array Bool → Bool
  | [], listed => (Region.ready md ops listed).isEmpty
  | (i, true) :: rest, listed => (Region.ready md ops listed).contains i && freeN md ops N listed i (waits md ops i) && ordOk md ops N rest (listed.setIfInBounds i true)
  | (i, false) :: rest, listed => Region.ready md ops listed == [i] && ordOk md ops N rest (listed.setIfInBounds i true)

/-- what is owed, in that order -/
def wpOrd (P : Program) (ops : Array Oper) (Q : Exit → Act → World → Prop) (S : World → Prop) (N : Nat → Bool) : List (Nat × Bool) → Act → World → Prop
  | [], a, w => Q .normal a w
  | (i, true) :: rest, a, w => ∃ o v, ops[i]? = some o ∧ S w ∧ YieldsIf P ops S o v a ∧ (∀ c a w, Q (.panic c) (a.put o.dst v) w → Q (.panic c) a w) ∧ wpOrd P ops Q S N rest (a.put o.dst v) w
  | (i, false) :: rest, a, w => wpOp P ops Q i (fun a' w' => (N i = true → S w') ∧ wpOrd P ops Q S N rest a' w') a w

theorem wpAnyN_of_ord (hs : Region.noSelect ops = true) : ∀ (l : List (Nat × Bool)) (listed : Array Bool) (a : Act) (w : World), ordOk md ops N l listed = true → wpOrd P ops Q S N l a w → wpAnyN P md ops Q S N l.length listed a w
  | [], listed, a, w, hc, h => ⟨by simpa [ordOk] using hc, h⟩
  | (i, true) :: rest, listed, a, w, hc, h => by
    obtain ⟨o, v, ho, hS, hy, hQ, h⟩ := h
    simp only [ordOk, Bool.and_eq_true] at hc
    obtain ⟨f1, f2, f3⟩ := freeN_spec ho hc.1.2
    exact wpAnyN_first (· ∈ waits md ops i) f1 ho (Region.noSelect_spec hs) hQ rest.length listed a w f2 f3 (by simpa using hc.1.1) hy hS (wpAnyN_of_ord hs rest _ _ _ hc.2 h)
  | (i, false) :: rest, listed, a, w, hc, h => by
    simp only [ordOk, Bool.and_eq_true] at hc
    have hr : Region.ready md ops listed = [i] := by simpa using hc.1
    refine ⟨fun h0 => absurd (hr ▸ h0) (by simp), fun j hj => ?_⟩
    rw [hr, List.mem_singleton] at hj
    subst hj
    exact wpOp_mono (fun a' w' h' => ⟨h'.1, wpAnyN_of_ord hs rest _ _ _ hc.2 h'.2⟩) h

/-- **a region that draws its order, in one order** -/
theorem wp_region_ord {id : Nat} {a : Act} {w : World} (hm : P.follows .mixedOrders = true) (l : List (Nat × Bool)) (hl : (l.length == ops.size && Region.noSelect ops && ordOk .any ops N l (Array.replicate ops.size false)) = true)
    (h : wpOrd P ops Q S N l a w.drew) : (Code.region id ops true).wp P Q a w := by
  simp only [Bool.and_eq_true, beq_iff_eq] at hl
  refine wp_region_any hm ?_
  rw [← hl.1.1]
  exact wpAny_of_N _ _ _ _ (wpAnyN_of_ord hl.1.2 l _ _ _ (by rw [hl.1.1]; exact hl.2) h)

/-- an operation that only looks -/
theorem ord_look {i : Nat} {rest : List (Nat × Bool)} {a : Act} {w : World} {o : Oper} {v : Value} (ho : nth ops.toList i = some o) (hS : S w) (hw : Region.wanted o (yielded ops a.tmps) = true)
    (hy : ∀ w, S w → (execOp a.eval o).run P w = .ok (.value v) w) (hQ : ∀ c a w, Q (.panic c) (a.put o.dst v) w → Q (.panic c) a w) (h : wpOrd P ops Q S N rest (a.put o.dst v) w) : wpOrd P ops Q S N ((i, true) :: rest) a w :=
  ⟨o, v, ops_of_nth ho, hS, .inl ⟨hw, hy⟩, hQ, h⟩
/-- the region's end -/
theorem ord_end {a : Act} {w : World} (h : Q .normal a w) : wpOrd P ops Q S N [] a w := h
/-- one that is passed over -/
theorem ord_skip {i : Nat} {rest : List (Nat × Bool)} {a : Act} {w : World} {o : Oper} (ho : nth ops.toList i = some o) (hS : S w) (hw : Region.wanted o (yielded ops a.tmps) = false)
    (hQ : ∀ c a w, Q (.panic c) (a.put o.dst undef) w → Q (.panic c) a w) (h : wpOrd P ops Q S N rest (a.put o.dst undef) w) : wpOrd P ops Q S N ((i, true) :: rest) a w :=
  ⟨o, undef, ops_of_nth ho, hS, .inr ⟨hw, rfl⟩, hQ, h⟩
/-- one that acts -/
theorem ord_act {i : Nat} {rest : List (Nat × Bool)} {a : Act} {w : World} {o : Oper} (ho : nth ops.toList i = some o) (hw : Region.wanted o (yielded ops a.tmps) = true)
    (h : ∀ K : Act → World → Prop, (∀ a' w', ((N i = true → S w') ∧ wpOrd P ops Q S N rest a' w') → K a' w') → o.wp P a w K Q) : wpOrd P ops Q S N ((i, false) :: rest) a w := by
  show wpOp _ _ _ _ _ _ _
  unfold wpOp
  simp only [ops_of_nth ho]
  rw [if_pos hw]
  exact .inl (h _ (fun _ _ x => x))
/-- a call of a Go function, by its contract -/
theorem wp_call {o : Oper} {a : Act} {w : World} {K : Act → World → Prop} (f : FuncId) (fn : Func) (c : Code) (hf : P.funcs[f]? = some fn) (hb : fn.body = some c) (hname : (fn.name == "runtime.NumGoroutine") = false)
    (xs : Array Operand) (ats : Array TypeId) (ho : o.op = .call { callee := .value (.func f), args := xs, argTypes := ats }) (args : Array Value) (ha : xs.map a.eval = args)
    {R : Value → World → Prop} (hc : Calls P f args w (RetIs R)) (h : ∀ v w', R v w' → K (a.put o.dst v) w') : o.wp P a w K Q := by
  obtain ⟨dst, op, ty, pos, after, guard⟩ := o
  simp only at ho
  subst ho
  unfold Oper.wp
  rw [execOp_call_go]
  have e : (#[] ++ xs.map a.eval ++ #[] : Array Value) = args := by simp [ha]
  rw [e, callFunc_enter hf hname hb]
  rw [Oper.upon_enter]
  refine hc.mono ?_
  intro e w' he
  cases e with
  | returned v => exact h v w' he
  | panicked _ => exact he.elim
  | outgrown => exact he.elim
end
end Go.Proofs.YtgiegkacilfofabDoor
