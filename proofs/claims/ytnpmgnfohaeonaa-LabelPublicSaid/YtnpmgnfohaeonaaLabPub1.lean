/- LabelPublic: the plain law; rows that grow by append, of whatever elements; programs that came in whose rows and names are not too long. -/
import Derived.Test.YtnpmgnfohaeonaaLabRow
import Derived.Test.YtnpmgnfohaeonaaLabRdP
import Derived.Test.YtnpmgnfohaeonaaLabDeep
import Derived.Maps.AppendAt
namespace Go.Proofs.Ytnpmgnfohaeonaa
set_option linter.unusedVariables false
set_option linter.unusedSimpArgs false
open Go.ChangeShapes Go.WideShapes Go.ChangeAt Go.RowKit

/-- the name with a small letter ahead -/
def smallN (s : ByteArray) : ByteArray := ⟨(118 :: s.data.toList).toArray⟩
theorem smallN_size (s : ByteArray) : (smallN s).size = s.size + 1 := by
  show (118 :: s.data.toList).toArray.size = _
  rw [List.size_toArray, List.length_cons, Array.length_toList]
  rfl
theorem smallN_eq (s : ByteArray) : (⟨#[118]⟩ : ByteArray) ++ s = smallN s := by
  have h : ((⟨#[118]⟩ : ByteArray) ++ s).data = (smallN s).data := by
    rw [ByteArray.data_append]
    show #[118] ++ s.data = (118 :: s.data.toList).toArray
    apply Array.ext'
    simp
  have e : ∀ a b : ByteArray, a.data = b.data → a = b := fun a b h => by cases a; cases b; simp at h; rw [h]
  exact e _ _ h
theorem great_small (s : ByteArray) : great (smallN s) = false := by
  have h : 0 < (smallN s).size := by rw [smallN_size]; omega
  unfold great
  rw [dif_pos h]
  have e : (smallN s)[0] = 118 := rfl
  rw [e]
  decide
def smallE : Nat → ExprT → ExprT
  | 0, .mk op n nm l => .mk op n (smallN nm) []
  | d + 1, .mk op n nm l => .mk op n (smallN nm) (l.map (smallE d))
theorem smallE_eq (d : Nat) (op n : Int) (nm : ByteArray) (l : List ExprT) : smallE d (.mk op n nm l) = .mk op n (smallN nm) (if d = 0 then [] else l.map (smallE (d - 1))) := by
  cases d <;> simp [smallE]
def smallSt : Nat → List StmtT → List StmtT
  | 0, _ => []
  | d + 1, l => l.map (fun | .mk op nm n L b e => .mk op (smallN nm) n (L.map (smallE (d + 1))) (smallSt d b) (smallSt d e))
def smallS (d : Nat) : StmtT → StmtT
  | .mk op nm n L b e => .mk op (smallN nm) n (L.map (smallE d)) (smallSt (d - 1) b) (smallSt (d - 1) e)
theorem smallSt_eq (d : Nat) (l : List StmtT) : smallSt d l = if d = 0 then [] else l.map (smallS d) := by
  cases d with
  | zero => rfl
  | succ d =>
    rw [if_neg (by omega)]
    show l.map _ = _
    refine List.map_congr_left (fun x _ => ?_)
    obtain ⟨op, nm, n, L, b, e⟩ := x
    rfl
def smallF (f : FuncT) : FuncT := ⟨smallN f.name, f.params.map smallN, smallSt 70 f.body⟩
theorem secE_small (d : Nat) : ∀ t, secE (smallE d t) = false := by
  induction d with
  | zero =>
    intro t
    obtain ⟨op, n, nm, l⟩ := t
    rw [smallE, secE_eq]
    simp [great_small]
  | succ d ih =>
    intro t
    obtain ⟨op, n, nm, l⟩ := t
    rw [smallE, secE_eq]
    simp [great_small, ih]
theorem leaksv_small (d : Nat) (l : List ExprT) (i : Nat) : leaksv (l.map (smallE d)) i = false := by
  unfold leaksv
  rw [List.getElem?_map]
  cases l[i]? with
  | none => rfl
  | some x => simp [secE_small]
theorem callv_none (ps : List ByteArray) (l : List ExprT) (h : ∀ i, leaksv l i = false) : ∀ k, callv ps l k = false
  | 0 => rfl
  | k + 1 => by rw [callv, callv_none ps l h k, h k]; simp
theorem tellE_small (prm : ByteArray → List ByteArray) (d : Nat) : ∀ t, tellE prm (smallE d t) = false := by
  induction d with
  | zero =>
    intro t
    obtain ⟨op, n, nm, l⟩ := t
    rw [smallE, tellE_eq]
    have h : ∀ i, leaksv ([] : List ExprT) i = false := fun i => by simp [leaksv]
    unfold ownE
    rw [h, h, callv_none _ _ h]
    simp
  | succ d ih =>
    intro t
    obtain ⟨op, n, nm, l⟩ := t
    rw [smallE, tellE_eq]
    unfold ownE
    rw [leaksv_small, leaksv_small, callv_none _ _ (leaksv_small d l)]
    simp [ih]
theorem tellS_small (prm : ByteArray → List ByteArray) (pub : Bool) (d : Nat) : ∀ l, (smallSt d l).any (tellS prm pub) = false := by
  induction d with
  | zero => intro l; rfl
  | succ d ih =>
    intro l
    rw [smallSt_eq, if_neg (by omega), List.any_map]
    rw [List.any_eq_false]
    intro x _
    obtain ⟨op, nm, n, L, b, e⟩ := x
    simp only [Function.comp_apply, smallS, Nat.add_sub_cancel]
    rw [tellS_eq, ih, ih]
    unfold ownS
    rw [leaksv_small, leaksv_small]
    simp [tellE_small]
theorem check_small (fs : List FuncT) (mn : List StmtT) : checkv ⟨fs.map smallF, smallSt 70 mn⟩ = 0 := by
  have h : badP ⟨fs.map smallF, smallSt 70 mn⟩ = false := by
    unfold badP
    rw [tellS_small, Bool.false_or, List.any_map, List.any_eq_false]
    intro f _
    simp [smallF, tellS_small]
  unfold checkv
  rw [h]
  rfl

/-- not too long -/
inductive SmN : ExprT → Prop
  | mk (op n : Int) (name : ByteArray) (l : List ExprT) (hn : name.size ≤ 140737488351232) (hl : l.length * 56 ≤ 140737488351232) (h : ∀ (j : Nat) (t : ExprT), l[j]? = some t → SmN t) : SmN (.mk op n name l)
inductive SmS : StmtT → Prop
  | mk (op : Int) (name : ByteArray) (n : Int) (l : List ExprT) (body els : List StmtT) (hn : name.size ≤ 140737488351232) (hl : l.length * 56 ≤ 140737488351232) (h : ∀ (j : Nat) (t : ExprT), l[j]? = some t → SmN t)
      (hlb : body.length * 104 ≤ 140737488351232) (hb : ∀ (j : Nat) (t : StmtT), body[j]? = some t → SmS t) (hle : els.length * 104 ≤ 140737488351232) (he : ∀ (j : Nat) (t : StmtT), els[j]? = some t → SmS t) : SmS (.mk op name n l body els)
structure SmF (f : FuncT) : Prop where
  hn : f.name.size ≤ 140737488351232
  hlp : f.params.length * 16 ≤ 140737488351232
  hp : ∀ s ∈ f.params, s.size ≤ 140737488351232
  hlb : f.body.length * 104 ≤ 140737488351232
  hb : ∀ (j : Nat) (t : StmtT), f.body[j]? = some t → SmS t
def rdExprN : Rd ExprT := ⟨4, fun w t cs => IsExpr w (Lt w) t cs ∧ SmN t⟩
def rdStmtN : Rd StmtT := ⟨6, fun w t cs => IsStmt w (Lt w) t cs ∧ SmS t⟩
def rdFuncN : Rd FuncT := ⟨3, fun w x cs => ∃ v : FuncV, cs = v.cells ∧ IsFunc w (Lt w) x v ∧ SmF x⟩
theorem exprsN_of {w : World} {c : Value} {xs : List ExprT} (h : (Rd.slice rdExprN 56).K w xs [c]) : ∃ A cp, c = .slice A xs.length cp ∧ Exprs w (Lt w) A cp xs ∧ xs.length * 56 ≤ 140737488351232 ∧ ∀ (j : Nat) (t : ExprT), xs[j]? = some t → SmN t := by
  obtain ⟨A, cp, e, h1, h2, h3⟩ := h
  simp only [List.cons.injEq, and_true] at e
  obtain ⟨f, g1, g2⟩ := rowAt_of (d := rdExprN) h1 (by omega) (by decide) h3
  exact ⟨A, cp, e, ⟨f, g1, fun j x hx => (g2 j x hx).1⟩, h2, fun j x hx => (g2 j x hx).2⟩
theorem stmtsN_of {w : World} {c : Value} {xs : List StmtT} (h : (Rd.slice rdStmtN 104).K w xs [c]) : ∃ A cp, c = .slice A xs.length cp ∧ Stmts w (Lt w) A cp xs ∧ xs.length * 104 ≤ 140737488351232 ∧ ∀ (j : Nat) (t : StmtT), xs[j]? = some t → SmS t := by
  obtain ⟨A, cp, e, h1, h2, h3⟩ := h
  simp only [List.cons.injEq, and_true] at e
  obtain ⟨f, g1, g2⟩ := rowAt_of (d := rdStmtN) h1 (by omega) (by decide) h3
  exact ⟨A, cp, e, ⟨f, g1, fun j x hx => (g2 j x hx).1⟩, h2, fun j x hx => (g2 j x hx).2⟩
theorem opens_exprN : ∀ n, Rd.Opens Try.prog 28 rdExprN n
  | 0 => fun H enc W base spare held fuel cs x hf h hw => by
    obtain ⟨m, hm, _⟩ := Rd.open_struct [3, 2, 9, 26] Try.underlying28 (by kernel_rfl) (by kernel_rfl) (by kernel_rfl) h hw
    omega
  | n + 1 => fun H enc W base spare held fuel cs x hf h hw => by
    obtain ⟨m, hm, hl, hp⟩ := Rd.open_struct [3, 2, 9, 26] Try.underlying28 (by kernel_rfl) (by kernel_rfl) (by kernel_rfl) h hw
    match cs, hl with
    | [c0, c1, c2, c3], _ =>
      obtain ⟨y0, h0, _⟩ := hp 0 _ c0 rfl rfl
      obtain ⟨y1, h1, _⟩ := hp 1 _ c1 rfl rfl
      obtain ⟨y2, h2, w2⟩ := hp 2 _ c2 rfl rfl
      obtain ⟨y3, h3, w3⟩ := hp 3 _ c3 rfl rfl
      obtain ⟨a0, e0, _, _⟩ := DataW.trod_int Try.underlying3 h0
      obtain ⟨a1, e1, _, _⟩ := DataW.trod_int Try.underlying2 h1
      obtain ⟨s, ⟨e2, hs⟩, _⟩ := Rd.opens_str Try.underlying9 m H enc W base spare held m [c2] y2 (Nat.le_refl _) h2 w2
      obtain ⟨xs, hk, _⟩ := Rd.opens_slice (bytes := 56) Try.underlying26 (by kernel_rfl) (by decide) (by kernel_rfl) (opens_exprN n) H enc W base spare held m [c3] y3 (by omega) h3 w3
      obtain ⟨A, cp, e3, hx, hl, hsm⟩ := exprsN_of hk
      simp only [List.cons.injEq, and_true] at e0 e1 e2
      subst e0 e1 e2 e3
      exact ⟨.mk a0 a1 s xs, ⟨isExpr_of (Nat.le_trans hs (by decide)) hx rfl, .mk a0 a1 s xs hs hl hsm⟩, rfl⟩
theorem opens_stmtN : ∀ n, Rd.Opens Try.prog 42 rdStmtN n
  | 0 => fun H enc W base spare held fuel cs x hf h hw => by
    obtain ⟨m, hm, _⟩ := Rd.open_struct [3, 9, 2, 26, 23, 23] Try.underlying42 (by kernel_rfl) (by kernel_rfl) (by kernel_rfl) h hw
    omega
  | n + 1 => fun H enc W base spare held fuel cs x hf h hw => by
    obtain ⟨m, hm, hl, hp⟩ := Rd.open_struct [3, 9, 2, 26, 23, 23] Try.underlying42 (by kernel_rfl) (by kernel_rfl) (by kernel_rfl) h hw
    match cs, hl with
    | [c0, c1, c2, c3, c4, c5], _ =>
      obtain ⟨y0, h0, _⟩ := hp 0 _ c0 rfl rfl
      obtain ⟨y1, h1, w1⟩ := hp 1 _ c1 rfl rfl
      obtain ⟨y2, h2, _⟩ := hp 2 _ c2 rfl rfl
      obtain ⟨y3, h3, w3⟩ := hp 3 _ c3 rfl rfl
      obtain ⟨y4, h4, w4⟩ := hp 4 _ c4 rfl rfl
      obtain ⟨y5, h5, w5⟩ := hp 5 _ c5 rfl rfl
      obtain ⟨a0, e0, _, _⟩ := DataW.trod_int Try.underlying3 h0
      obtain ⟨s, ⟨e1, hs⟩, _⟩ := Rd.opens_str Try.underlying9 m H enc W base spare held m [c1] y1 (Nat.le_refl _) h1 w1
      obtain ⟨a2, e2, _, _⟩ := DataW.trod_int Try.underlying2 h2
      obtain ⟨xs, hk, _⟩ := Rd.opens_slice (bytes := 56) Try.underlying26 (by kernel_rfl) (by decide) (by kernel_rfl) (opens_exprN n) H enc W base spare held m [c3] y3 (by omega) h3 w3
      obtain ⟨A, cp, e3, hx, hlx, hsx⟩ := exprsN_of hk
      obtain ⟨ys, hk4, _⟩ := Rd.opens_slice (bytes := 104) Try.underlying23 (by kernel_rfl) (by decide) (by kernel_rfl) (opens_stmtN n) H enc W base spare held m [c4] y4 (by omega) h4 w4
      obtain ⟨B, cb, e4, hy, hly, hsy⟩ := stmtsN_of hk4
      obtain ⟨zs, hk5, _⟩ := Rd.opens_slice (bytes := 104) Try.underlying23 (by kernel_rfl) (by decide) (by kernel_rfl) (opens_stmtN n) H enc W base spare held m [c5] y5 (by omega) h5 w5
      obtain ⟨E, ce, e5, hz, hlz, hsz⟩ := stmtsN_of hk5
      simp only [List.cons.injEq, and_true] at e0 e1 e2
      subst e0 e1 e2 e3 e4 e5
      exact ⟨.mk a0 s a2 xs ys zs, ⟨isStmt_of (Nat.le_trans hs (by decide)) hx hy hz rfl rfl rfl, .mk a0 s a2 xs ys zs hs hlx hsx hly hsy hlz hsz⟩, rfl⟩
theorem strsN_of {w : World} {c : Value} {xs : List ByteArray} (h : (Rd.slice Rd.str 16).K w xs [c]) : ∃ A cp, c = .slice A xs.length cp ∧ Strs w (Lt w) A cp xs ∧ xs.length * 16 ≤ 140737488351232 ∧ ∀ s ∈ xs, s.size ≤ 140737488351232 := by
  obtain ⟨A, cp, e, h1⟩ := strs_of h
  obtain ⟨_, _, _, h2, h3, h4⟩ := h
  refine ⟨A, cp, e, h1, h3, fun s hs => ?_⟩
  obtain ⟨j, hj, rfl⟩ := List.getElem_of_mem hs
  obtain ⟨b, off, _, hx⟩ := h4 (by omega)
  obtain ⟨cs, _, _, g⟩ := hx j xs[j] (List.getElem?_eq_getElem hj)
  exact g.2
theorem opens_funcN : ∀ n, Rd.Opens Try.prog 38 rdFuncN n := fun n H enc W base spare held fuel cs x hf h hw => by
    obtain ⟨m, hm, hl, hp⟩ := Rd.open_struct [9, 36, 23] Try.underlying38 (by kernel_rfl) (by kernel_rfl) (by kernel_rfl) h hw
    match cs, hl with
    | [c0, c1, c2], _ =>
      obtain ⟨y0, h0, w0⟩ := hp 0 _ c0 rfl rfl
      obtain ⟨y1, h1, w1⟩ := hp 1 _ c1 rfl rfl
      obtain ⟨y2, h2, w2⟩ := hp 2 _ c2 rfl rfl
      obtain ⟨s, ⟨e0, hs⟩, _⟩ := Rd.opens_str Try.underlying9 m H enc W base spare held m [c0] y0 (Nat.le_refl _) h0 w0
      obtain ⟨xs, hk, _⟩ := Rd.opens_slice (bytes := 16) Try.underlying36 (by kernel_rfl) (by decide) (by kernel_rfl) (Rd.opens_str Try.underlying9 m) H enc W base spare held m [c1] y1 (by omega) h1 w1
      obtain ⟨A, cp, e1, hx, hlx, hsx⟩ := strsN_of hk
      obtain ⟨ys, hk2, _⟩ := Rd.opens_slice (bytes := 104) Try.underlying23 (by kernel_rfl) (by decide) (by kernel_rfl) (opens_stmtN m) H enc W base spare held m [c2] y2 (by omega) h2 w2
      obtain ⟨B, cb, e2, hy, hly, hsy⟩ := stmtsN_of hk2
      simp only [List.cons.injEq, and_true] at e0
      subst e0 e1 e2
      exact ⟨⟨s, xs, ys⟩, ⟨⟨s, A, xs.length, cp, B, ys.length, cb⟩, rfl, ⟨rfl, Nat.le_trans hs (by decide), rfl, hx, rfl, hy⟩, ⟨hs, hlx, hsx, hly, hsy⟩⟩, rfl⟩
theorem funcsN_of {w : World} {c : Value} {xs : List FuncT} (h : (Rd.slice rdFuncN 64).K w xs [c]) : ∃ A cp, c = .slice A xs.length cp ∧ Funcs w (Lt w) A cp xs ∧ xs.length * 64 ≤ 140737488351232 ∧ ∀ (j : Nat) (x : FuncT), xs[j]? = some x → SmF x := by
  obtain ⟨A, cp, e, h1, h2, h3⟩ := h
  simp only [List.cons.injEq, and_true] at e
  obtain ⟨f, g1, g2⟩ := rowAt_of (d := rdFuncN) h1 (by omega) (by decide) h3
  have hv : ∀ j : Nat, ∃ v : FuncV, ∀ x, xs[j]? = some x → f j = v.cells ∧ IsFunc w (Lt w) x v := fun j => by
    by_cases hj : j < xs.length
    · obtain ⟨v, e1, e2, _⟩ := g2 j xs[j] (List.getElem?_eq_getElem hj)
      exact ⟨v, fun x hx => by rw [List.getElem?_eq_getElem hj] at hx; injection hx with hx; subst hx; exact ⟨e1, e2⟩⟩
    · exact ⟨⟨ByteArray.empty, none, 0, 0, none, 0, 0⟩, fun x hx => absurd (List.getElem?_eq_some_iff.1 hx).1 hj⟩
  refine ⟨A, cp, e, ⟨fun j => Classical.choose (hv j), g1.congr (fun j hj => (Classical.choose_spec (hv j) xs[j] (List.getElem?_eq_getElem hj)).1), fun j x hx => (Classical.choose_spec (hv j) x hx).2⟩, h2, fun j x hx => ?_⟩
  obtain ⟨v, _, _, h⟩ := g2 j x hx
  exact h
def rdProgN : Rd ProgT := ⟨2, fun w p cs => ∃ A c B cb, cs = [.slice A p.funcs.length c, .slice B p.main.length cb] ∧ Funcs w (Lt w) A c p.funcs ∧ Stmts w (Lt w) B cb p.main ∧ p.funcs.length * 64 ≤ 140737488351232 ∧ (∀ (j : Nat) (x : FuncT), p.funcs[j]? = some x → SmF x) ∧ p.main.length * 104 ≤ 140737488351232 ∧ (∀ (j : Nat) (x : StmtT), p.main[j]? = some x → SmS x)⟩
theorem opens_progN : ∀ n, Rd.Opens Try.prog 25 rdProgN n := fun n H enc W base spare held fuel cs x hf h hw => by
    obtain ⟨m, hm, hl, hp⟩ := Rd.open_struct [22, 23] Try.underlying25 (by kernel_rfl) (by kernel_rfl) (by kernel_rfl) h hw
    match cs, hl with
    | [c0, c1], _ =>
      obtain ⟨y0, h0, w0⟩ := hp 0 _ c0 rfl rfl
      obtain ⟨y1, h1, w1⟩ := hp 1 _ c1 rfl rfl
      obtain ⟨xs, hk, _⟩ := Rd.opens_slice (bytes := 64) Try.underlying22 (by kernel_rfl) (by decide) (by kernel_rfl) (opens_funcN m) H enc W base spare held m [c0] y0 (by omega) h0 w0
      obtain ⟨A, cp, e0, hx, hlx, hsx⟩ := funcsN_of hk
      obtain ⟨ys, hk2, _⟩ := Rd.opens_slice (bytes := 104) Try.underlying23 (by kernel_rfl) (by decide) (by kernel_rfl) (opens_stmtN m) H enc W base spare held m [c1] y1 (by omega) h1 w1
      obtain ⟨B, cb, e1, hy, hly, hsy⟩ := stmtsN_of hk2
      subst e0 e1
      exact ⟨⟨xs, ys⟩, ⟨A, cp, B, cb, rfl, hx, hy, hlx, hsx, hly, hsy⟩, rfl⟩

/-- a predicate on things in memory that goes along -/
structure Stab {α : Type} (P : World → (Nat → Prop) → α → List Value → Prop) : Prop where
  kept : ∀ (w w' : World) (X S : Nat → Prop) (t : α) (ds : List Value), P w X t ds → Chg S w w' → (∀ k, X k → ¬ S k) → P w' X t ds
  mono : ∀ (w : World) (X Y : Nat → Prop) (t : α) (ds : List Value), P w X t ds → (∀ k, X k → Y k) → P w Y t ds
theorem stab_expr : Stab IsExpr := ⟨fun _ _ _ _ _ _ h hc hn => h.kept hc hn, fun _ _ _ _ _ h hY => h.mono hY⟩
theorem stab_stmt : Stab IsStmt := ⟨fun _ _ _ _ _ _ h hc hn => h.kept hc hn, fun _ _ _ _ _ h hY => h.mono hY⟩
def IsFn (w : World) (X : Nat → Prop) (x : FuncT) (ds : List Value) : Prop := ∃ v : FuncV, ds = v.cells ∧ IsFunc w X x v
theorem IsFunc.mono {w : World} {X Y : Nat → Prop} {x : FuncT} {v : FuncV} (h : IsFunc w X x v) (hY : ∀ k, X k → Y k) : IsFunc w Y x v := ⟨h.name, h.size, h.pn, ⟨h.params.1.mono hY, h.params.2⟩, h.bn, h.body.mono hY⟩
theorem Funcs.mono {w : World} {X Y : Nat → Prop} {A : Option Addr} {c : Nat} {l : List FuncT} (h : Funcs w X A c l) (hY : ∀ k, X k → Y k) : Funcs w Y A c l := by
  obtain ⟨fv, h1, h2⟩ := h
  exact ⟨fv, h1.mono hY, fun j x hx => (h2 j x hx).mono hY⟩
theorem stab_fn : Stab IsFn := ⟨fun _ _ _ _ _ _ h hc hn => by obtain ⟨v, e, h⟩ := h; exact ⟨v, e, h.kept hc hn⟩, fun _ _ _ _ _ h hY => by obtain ⟨v, e, h⟩ := h; exact ⟨v, e, h.mono hY⟩⟩
def IsStr (w : World) (X : Nat → Prop) (s : ByteArray) (ds : List Value) : Prop := ds = [.string s] ∧ s.size ≤ 140737488355327
theorem stab_str : Stab IsStr := ⟨fun _ _ _ _ _ _ h hc hn => h, fun _ _ _ _ _ h hY => h⟩

/-- a row that grows by append -/
structure RowI {α : Type} (P : World → (Nat → Prop) → α → List Value → Prop) (w : World) (base : Nat) (e : TypeId) (sz : Nat) (V : Value) (rows : List (List Value)) (X : Nat → Prop) (ts : List α) : Prop where
  row : w.ownsRow base e sz V ts.length rows.flatten
  len : rows.length = ts.length
  sz : ∀ ds ∈ rows, ds.length = sz
  is : ∀ (i : Nat) (t : α), ts[i]? = some t → ∃ ds, rows[i]? = some ds ∧ P w X t ds
  foot : ∀ k, X k → base ≤ k ∧ k < w.heap.size ∧ V.ownBlock ≠ some k
section
variable {α : Type} {P : World → (Nat → Prop) → α → List Value → Prop} {w : World} {base : Nat} {e : TypeId} {sz : Nat} {V : Value} {rows : List (List Value)} {X : Nat → Prop} {ts : List α}
theorem RowI.start (P : World → (Nat → Prop) → α → List Value → Prop) (w : World) (base : Nat) (e : TypeId) (sz : Nat) : RowI P w base e sz (.slice none 0 0) [] (fun _ => False) [] :=
  ⟨World.ownsRow_nil w base _ sz, rfl, by simp, by simp, fun k hk => hk.elim⟩
theorem RowI.kept (h : RowI P w base e sz V rows X ts) (hP : Stab P) {w' : World} {S : Nat → Prop} (hc : Chg S w w') (hV : ∀ k, V.ownBlock = some k → ¬ S k) (hX : ∀ k, X k → ¬ S k) : RowI P w' base e sz V rows X ts :=
  ⟨ownsRow_kept h.row hc hV, h.len, h.sz, fun i t ht => by
    obtain ⟨ds, e, hi⟩ := h.is i t ht
    exact ⟨ds, e, hP.kept _ _ _ _ _ _ hi hc hX⟩, fun k hk => ⟨(h.foot k hk).1, Nat.lt_of_lt_of_le (h.foot k hk).2.1 hc.size, (h.foot k hk).2.2⟩⟩
theorem RowI.keep (h : RowI P w base e sz V rows X ts) (hP : Stab P) {w' : World} (hb : Below w.heap.size w w') : RowI P w' base e sz V rows X ts := h.kept hP (Below.chg hb) (fun _ _ x => x) (fun _ _ x => x)
theorem RowI.slice (h : RowI P w base e sz V rows X ts) : ∃ A c, V = .slice A ts.length c ∧ ts.length ≤ c := by
  rcases h.row.2 with ⟨e, h0⟩ | ⟨g, cap, cur, e, _, _, h1, _⟩
  · exact ⟨none, 0, by rw [e, h0], by omega⟩
  · exact ⟨_, cap, e, h1⟩
theorem RowI.own (h : RowI P w base e sz V rows X ts) : ∀ k, V.ownBlock = some k → base ≤ k ∧ k < w.heap.size := fun k hk => h.row.lt k hk
/-- one more -/
theorem RowI.step (h : RowI P w base e sz V rows X ts) (hP : Stab P) {Xe : Nat → Prop} {t : α} {ds : List Value} {w2 : World} {V' : Value} (ht : P w Xe t ds) (hl : ds.length = sz) (hXe : ∀ k, Xe k → base ≤ k ∧ k < w.heap.size ∧ V.ownBlock ≠ some k)
    (hrow : w2.ownsRow base e sz V' (ts.length + 1) (rows.flatten ++ ds)) (hg : w.grownBy w2 V.ownBlock) (hat : V'.ownBlock = V.ownBlock ∨ V'.ownBlock = some w.heap.size) :
    RowI P w2 base e sz V' (rows ++ [ds]) (fun k => X k ∨ Xe k) (ts ++ [t]) := by
  have hcg : Chg (fun k => V.ownBlock = some k) w w2 := Chg.of_grown hg
  have hone : ∀ k, (X k ∨ Xe k) → base ≤ k ∧ k < w.heap.size ∧ V.ownBlock ≠ some k := fun k hk => hk.elim (h.foot k) (hXe k)
  refine ⟨?_, ?_, ?_, ?_, ?_⟩
  · rw [List.length_append, List.flatten_append]
    simpa using hrow
  · rw [List.length_append, List.length_append, h.len]; rfl
  · intro d hd
    rcases List.mem_append.1 hd with hd | hd
    · exact h.sz d hd
    · rw [List.mem_singleton.1 hd]; exact hl
  · intro i t' hi
    by_cases hlt : i < ts.length
    · rw [List.getElem?_append_left hlt] at hi
      obtain ⟨d, e, hie⟩ := h.is i t' hi
      exact ⟨d, by rw [List.getElem?_append_left (by rw [h.len]; exact hlt)]; exact e, hP.mono _ _ _ _ _ (hP.kept _ _ _ _ _ _ hie hcg (fun k hk e => (h.foot k hk).2.2 e)) (fun k hk => .inl hk)⟩
    · have hi0 : i = ts.length := by
        have := (List.getElem?_eq_some_iff.1 hi).1
        rw [List.length_append, List.length_singleton] at this
        omega
      subst hi0
      rw [List.getElem?_append_right (Nat.le_refl _), Nat.sub_self] at hi
      injection hi with hi
      subst hi
      exact ⟨ds, by rw [List.getElem?_append_right (by rw [h.len]; exact Nat.le_refl _), h.len, Nat.sub_self]; rfl, hP.mono _ _ _ _ _ (hP.kept _ _ _ _ _ _ ht hcg (fun k hk e => (hXe k hk).2.2 e)) (fun k hk => .inr hk)⟩
  · intro k hk
    have hk1 := hone k hk
    refine ⟨hk1.1, Nat.lt_of_lt_of_le hk1.2.1 hg.size, fun e => ?_⟩
    rcases hat with ha | ha
    · rw [ha] at e; exact hk1.2.2 e
    · rw [ha] at e; injection e with e; omega
/-- where its elements lie -/
theorem RowI.done (h : RowI P w base e sz V rows X ts) (hP : Stab P) (hm : ts.length ≤ 8796093022208) : ∃ A c f, V = .slice A ts.length c ∧ RowAt w (fun k => X k ∨ V.ownBlock = some k) sz A ts.length c f ∧ ∀ (j : Nat) (x : α), ts[j]? = some x → P w (fun k => X k ∨ V.ownBlock = some k) x (f j) := by
  obtain ⟨A, c, rfl, hc⟩ := h.slice
  refine ⟨A, c, fun j => rows.getD j [], rfl, ⟨hc, hm, fun h0 => ?_⟩, fun j x hx => ?_⟩
  · obtain ⟨g, cap, e, hlt, hcell⟩ := ownsRow_at h.row h0
    injection e with e1 e2 e3
    subst e1
    refine ⟨g, 0, rfl, fun j hj => ⟨.inr rfl, hlt, fun i u hu => ?_⟩⟩
    rw [Nat.zero_add]
    have hj2 : j < rows.length := by rw [h.len]; exact hj
    rw [List.getD_eq_getElem?_getD, List.getElem?_eq_getElem hj2] at hu
    exact hcell _ _ (flatK sz rows h.sz j i rows[j] (List.getElem?_eq_getElem hj2) u hu)
  · obtain ⟨ds, e, hi⟩ := h.is j x hx
    simp only [List.getD_eq_getElem?_getD, e, Option.getD_some]
    exact hP.mono _ _ _ _ _ hi (fun k hk => .inl hk)
end
end Go.Proofs.Ytnpmgnfohaeonaa
