/- label: trees that are made; the laws' small helpers. -/
import Derived.Test.YtnpmgnfohaeonaaLabCheck
import Derived.Test.YtnpmgnfohaeonaaOrdT
namespace Go.Proofs.Ytnpmgnfohaeonaa
set_option linter.unusedVariables false
set_option linter.unusedSimpArgs false
open Go.RowKit

theorem heap_new' {w : World} {o : Obj} {n : Nat} (h : w.heap.size = n) : (w.alloc o).heap[n]? = some o := by
  subst h
  exact heap_new _ _
/-- a row of one, of two, laid as a block of its own -/
theorem At.of_block {w : World} {X : Nat → Prop} {b : Nat} {cs : Array Value} {T : TypeId} {fr : Nat × Nat} (h : w.heap[b]? = some (.cells cs T fr)) (hX : X b) (off : Nat) (ds : List Value) (hd : ∀ (i : Nat) u, ds[i]? = some u → cs[off + i]? = some u) : At w X b off ds :=
  ⟨hX, lt_of_heap h, fun i u hu => by rw [cell_of_block h]; exact hd i u hu⟩
theorem rowAt_one {w : World} {X : Nat → Prop} {b sz : Nat} {T : TypeId} {fr : Nat × Nat} {ds : List Value} (h : w.heap[b]? = some (.cells ds.toArray T fr)) (hX : X b) : RowAt w X sz (some ⟨b, 0, none⟩) 1 1 (fun _ => ds) :=
  ⟨Nat.le_refl _, by decide, fun _ => ⟨b, 0, rfl, fun j hj => At.of_block h hX _ _ (fun i u hu => by obtain rfl : j = 0 := by omega
                                                                                                     simpa using hu)⟩⟩
theorem rowAt_two {w : World} {X : Nat → Prop} {b sz : Nat} {T : TypeId} {fr : Nat × Nat} {ds es : List Value} (h : w.heap[b]? = some (.cells (ds ++ es).toArray T fr)) (hX : X b) (hd : ds.length = sz) : RowAt w X sz (some ⟨b, 0, none⟩) 2 2 (fun j => if j = 0 then ds else es) :=
  ⟨Nat.le_refl _, by decide, fun _ => ⟨b, 0, rfl, fun j hj => At.of_block h hX _ _ (fun i u hu => by
    rcases (show j = 0 ∨ j = 1 by omega) with rfl | rfl
    · simp only [if_true] at hu
      have := (List.getElem?_eq_some_iff.1 hu).1
      simp [List.getElem?_append_left this, hu]
    · simp only [Nat.one_ne_zero, if_false] at hu
      simp only [Nat.zero_add, Nat.one_mul, List.getElem?_toArray]
      rw [List.getElem?_append_right (by omega), ← hd, Nat.add_sub_cancel_left]
      exact hu)⟩⟩
theorem rowAt_nil (w : World) (X : Nat → Prop) (sz : Nat) (f : Nat → List Value) : RowAt w X sz none 0 0 f := ⟨Nat.le_refl _, by decide, fun h => by omega⟩
theorem exprs_nil (w : World) (X : Nat → Prop) : Exprs w X none 0 [] := ⟨fun _ => [], rowAt_nil _ _ _ _, fun j x h => by simp at h⟩
theorem stmts_nil (w : World) (X : Nat → Prop) : Stmts w X none 0 [] := ⟨fun _ => [], rowAt_nil _ _ _ _, fun j x h => by simp at h⟩
theorem funcs_nil (w : World) (X : Nat → Prop) : Funcs w X none 0 [] := ⟨fun _ => ⟨ByteArray.empty, none, 0, 0, none, 0, 0⟩, rowAt_nil _ _ _ _, fun j x h => by simp at h⟩
theorem strs_nil (w : World) (X : Nat → Prop) : Strs w X none 0 [] := ⟨rowAt_nil _ _ _ _, fun s h => by cases h⟩
theorem exprs_one {w : World} {X : Nat → Prop} {b : Nat} {T : TypeId} {fr : Nat × Nat} {ds : List Value} {t : ExprT} (h : w.heap[b]? = some (.cells ds.toArray T fr)) (hX : X b) (ht : IsExpr w X t ds) : Exprs w X (some ⟨b, 0, none⟩) 1 [t] :=
  ⟨_, rowAt_one h hX, fun j x hx => by
    cases j with
    | zero => simp at hx; subst hx; exact ht
    | succ j => simp at hx⟩
theorem exprs_two {w : World} {X : Nat → Prop} {b : Nat} {T : TypeId} {fr : Nat × Nat} {ds es : List Value} {t u : ExprT} (h : w.heap[b]? = some (.cells (ds ++ es).toArray T fr)) (hX : X b) (hd : ds.length = 4) (ht : IsExpr w X t ds) (hu : IsExpr w X u es) : Exprs w X (some ⟨b, 0, none⟩) 2 [t, u] :=
  ⟨_, rowAt_two h hX hd, fun j x hx => by
    match j, hx with
    | 0, hx => simp at hx; subst hx; exact ht
    | 1, hx => simp at hx; subst hx; exact hu⟩
theorem stmts_one {w : World} {X : Nat → Prop} {b : Nat} {T : TypeId} {fr : Nat × Nat} {ds : List Value} {t : StmtT} (h : w.heap[b]? = some (.cells ds.toArray T fr)) (hX : X b) (ht : IsStmt w X t ds) : Stmts w X (some ⟨b, 0, none⟩) 1 [t] :=
  ⟨_, rowAt_one h hX, fun j x hx => by
    cases j with
    | zero => simp at hx; subst hx; exact ht
    | succ j => simp at hx⟩
theorem stmts_two {w : World} {X : Nat → Prop} {b : Nat} {T : TypeId} {fr : Nat × Nat} {ds es : List Value} {t u : StmtT} (h : w.heap[b]? = some (.cells (ds ++ es).toArray T fr)) (hX : X b) (hd : ds.length = 6) (ht : IsStmt w X t ds) (hu : IsStmt w X u es) : Stmts w X (some ⟨b, 0, none⟩) 2 [t, u] :=
  ⟨_, rowAt_two h hX hd, fun j x hx => by
    match j, hx with
    | 0, hx => simp at hx; subst hx; exact ht
    | 1, hx => simp at hx; subst hx; exact hu⟩
theorem funcs_one {w : World} {X : Nat → Prop} {b : Nat} {T : TypeId} {fr : Nat × Nat} {v : FuncV} {x : FuncT} (h : w.heap[b]? = some (.cells v.cells.toArray T fr)) (hX : X b) (ht : IsFunc w X x v) : Funcs w X (some ⟨b, 0, none⟩) 1 [x] :=
  ⟨fun _ => v, rowAt_one h hX, fun j y hx => by
    cases j with
    | zero => simp at hx; subst hx; exact ht
    | succ j => simp at hx⟩
theorem strs_two {w : World} {X : Nat → Prop} {b : Nat} {T : TypeId} {fr : Nat × Nat} {s t : ByteArray} (h : w.heap[b]? = some (.cells #[.string s, .string t] T fr)) (hX : X b) (hs : s.size ≤ 140737488355327) (ht : t.size ≤ 140737488355327) : Strs w X (some ⟨b, 0, none⟩) 2 [s, t] :=
  ⟨⟨Nat.le_refl _, by simp, fun _ => ⟨b, 0, rfl, fun j hj => At.of_block h hX _ _ (fun i u hu => by
      cases i with
      | zero =>
        rcases (show j = 0 ∨ j = 1 by simp at hj; omega) with rfl | rfl
        · simpa using hu
        · simpa using hu
      | succ i => simp at hu)⟩⟩, fun x hx => by simp at hx; rcases hx with rfl | rfl; exact hs; exact ht⟩

/-- a variable -/
def varT (s : ByteArray) : ExprT := .mk 2 0 s []
theorem isExpr_var (w : World) (X : Nat → Prop) (s : ByteArray) (hs : s.size ≤ 140737488355327) : IsExpr w X (varT s) [.int .i64 2, .int .i64 0, .string s, .slice none 0 0] :=
  .mk 2 0 s [] none 0 (fun _ => []) hs (rowAt_nil _ _ _ _) (fun j x h => by simp at h)
theorem isExpr_of {w : World} {X : Nat → Prop} {op n : Int} {name : ByteArray} {l : List ExprT} {A : Option Addr} {c k : Nat} (hs : name.size ≤ 140737488355327) (h : Exprs w X A c l) (hk : k = l.length) : IsExpr w X (.mk op n name l) [.int .i64 op, .int .i64 n, .string name, .slice A k c] := by
  obtain ⟨f, h1, h2⟩ := h
  subst hk
  exact .mk op n name l A c f hs h1 h2
theorem isStmt_of {w : World} {X : Nat → Prop} {op n : Int} {name : ByteArray} {l : List ExprT} {body els : List StmtT} {A B E : Option Addr} {c cb ce k kb ke : Nat} (hs : name.size ≤ 140737488355327) (h : Exprs w X A c l) (hb : Stmts w X B cb body) (he : Stmts w X E ce els) (hk : k = l.length) (hkb : kb = body.length) (hke : ke = els.length) :
    IsStmt w X (.mk op name n l body els) [.int .i64 op, .string name, .int .i64 n, .slice A k c, .slice B kb cb, .slice E ke ce] := by
  obtain ⟨f, h1, h2⟩ := h
  obtain ⟨fb, h3, h4⟩ := hb
  obtain ⟨fe, h5, h6⟩ := he
  subst hk hkb hke
  exact .mk op name n l body els A B E c cb ce f fb fe hs h1 h2 h3 h4 h5 h6

set_option maxRecDepth 100000 in
theorem name_any (s : ByteArray) (w : World) : Calls Try.prog 18 #[.string s] w fun e w' => e = .returned (.agg #[.int .i64 2, .int .i64 0, .string s, .slice none 0 0]) ∧ Below w.heap.size w w' := by
  go_enter Try.func18, Try.ntmps18
  go_wp2_with fail
  exact bodyPost_ret (v := .agg #[.int .i64 2, .int .i64 0, .string s, .slice none 0 0]) (by simp [results, Try.results18, go_sem]) rfl ⟨rfl, (Below.refl _ _).alloc (Nat.le_refl _) _⟩
/-- an assignment -/
def setT (s : ByteArray) (t : ExprT) : StmtT := .mk 1 s 0 [t] [] []
set_option maxRecDepth 100000 in
theorem sets_any (s : ByteArray) (op n : Int) (nm : ByteArray) (A : Option Addr) (k c : Nat) (w : World) : Calls Try.prog 20 #[.string s, .agg #[.int .i64 op, .int .i64 n, .string nm, .slice A k c]] w fun e w' => ∃ b, e = .returned (.agg #[.int .i64 1, .string s, .int .i64 0, .slice (some ⟨b, 0, none⟩) 1 1, .slice none 0 0, .slice none 0 0]) ∧ w.heap.size ≤ b ∧ w'.heap[b]? = some (.cells #[.int .i64 op, .int .i64 n, .string nm, .slice A k c] 28 (0, 0)) ∧ Below w.heap.size w w' := by
  go_enter Try.func20, Try.ntmps20
  go_wp2_with fail
  refine bodyPost_ret (v := .agg #[.int .i64 1, .string s, .int .i64 0, .slice (some ⟨w.heap.size + 1 + 1, 0, none⟩) 1 1, .slice none 0 0, .slice none 0 0]) (by simp [results, Try.results20, go_sem]) rfl ⟨_, rfl, by omega, ?_, ?_⟩
  · exact heap_new' (by simp)
  · exact (((Below.refl _ w).alloc (Nat.le_refl _) _).alloc (by simp) _).alloc (by simp; omega) _
end Go.Proofs.Ytnpmgnfohaeonaa
