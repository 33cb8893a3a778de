/- label: names that are great; trees in memory; rows of trees that are asked one by one. -/
import Derived.Test.YtnpmgnfohaeonaaBase
import Derived.Deep.LoopGhost
import Derived.Lib.Hide
namespace Go.Proofs.Ytnpmgnfohaeonaa
set_option linter.unusedVariables false
set_option linter.unusedSimpArgs false
open Go.RowKit

/-- a name that begins with a great letter -/
def great (s : ByteArray) : Bool := if h : 0 < s.size then decide ((65 : Int) ≤ ((s[0].toNat : Nat) : Int)) && decide (((s[0].toNat : Nat) : Int) ≤ (90 : Int)) else false
theorem toList_nil_iff (s : ByteArray) : s.toList = [] ↔ s.size = 0 := by
  rw [ByteArray.toList_eq]
  exact ⟨fun h => by have := congrArg List.length h; simpa using this, fun h => List.length_eq_zero_iff.1 (by simpa using h)⟩

set_option maxRecDepth 100000 in
theorem secret_any (s : ByteArray) (w : World) : Calls Try.prog 19 #[.string s] w fun e w' => e = .returned (.bool (great s)) ∧ w' = w := by
  by_cases h : 0 < s.size
  · have h1 : ¬ s.toList = [] := fun e => by rw [toList_nil_iff] at e; omega
    have h2 : (!s.toList.isEmpty) = true := by cases hs : s.toList with
      | nil => exact absurd hs h1
      | cons a b => rfl
    obtain ⟨r, hr⟩ : ∃ r, great s = r := ⟨_, rfl⟩
    rw [hr]
    unfold great at hr
    rw [dif_pos h] at hr
    have HR := Lib.hid hr
    clear hr
    by_cases h3 : (65 : Int) ≤ ((s[0].toNat : Nat) : Int)
    · go_enter Try.func19, Try.ntmps19
      go_wp2_with fail
      go_ret
      refine ⟨?_, rfl⟩
      rw [← HR.out]
      simp [h3]
    · go_enter Try.func19, Try.ntmps19
      go_wp2_with fail
      go_ret
      refine ⟨?_, rfl⟩
      rw [← HR.out]
      rw [decide_eq_false (by omega)]
      rfl
  · have h1 : s.toList = [] := (toList_nil_iff s).2 (by omega)
    have e : great s = false := by unfold great; rw [dif_neg h]
    rw [e]
    clear e h
    go_enter Try.func19, Try.ntmps19
    go_wp2_with fail
    go_ret
    exact ⟨rfl, rfl⟩

inductive ExprT where
  | mk (op n : Int) (name : ByteArray) (l : List ExprT) : ExprT
def ExprT.op : ExprT → Int | .mk op _ _ _ => op
def ExprT.n : ExprT → Int | .mk _ n _ _ => n
def ExprT.name : ExprT → ByteArray | .mk _ _ name _ => name
def ExprT.l : ExprT → List ExprT | .mk _ _ _ l => l
inductive StmtT where
  | mk (op : Int) (name : ByteArray) (n : Int) (l : List ExprT) (body els : List StmtT) : StmtT
def StmtT.op : StmtT → Int | .mk op _ _ _ _ _ => op
def StmtT.name : StmtT → ByteArray | .mk _ name _ _ _ _ => name
def StmtT.n : StmtT → Int | .mk _ _ n _ _ _ => n
def StmtT.l : StmtT → List ExprT | .mk _ _ _ l _ _ => l
def StmtT.body : StmtT → List StmtT | .mk _ _ _ _ body _ => body
def StmtT.els : StmtT → List StmtT | .mk _ _ _ _ _ els => els

/-- the cells from an address on -/
def At (w : World) (X : Nat → Prop) (b off : Nat) (cs : List Value) : Prop := X b ∧ b < w.heap.size ∧ ∀ (i : Nat) u, cs[i]? = some u → w.cell? ⟨b, off + i, none⟩ = some u
theorem At.kept {w w' : World} {X S : Nat → Prop} {b off : Nat} {cs : List Value} (h : At w X b off cs) (hc : Chg S w w') (hn : ∀ k, X k → ¬ S k) : At w' X b off cs :=
  ⟨h.1, Nat.lt_of_lt_of_le h.2.1 hc.size, fun i u hu => hc.cell (h.2.2 i u hu) (hn b h.1)⟩
theorem At.mono {w : World} {X Y : Nat → Prop} {b off : Nat} {cs : List Value} (h : At w X b off cs) (hY : ∀ k, X k → Y k) : At w Y b off cs := ⟨hY b h.1, h.2⟩

/-- a row of things of sz cells each: where its j-th one lies -/
structure RowAt (w : World) (X : Nat → Prop) (sz : Nat) (A : Option Addr) (n c : Nat) (f : Nat → List Value) : Prop where
  le : n ≤ c
  max : n ≤ 8796093022208
  at_ : 0 < n → ∃ b off, A = some ⟨b, off, none⟩ ∧ ∀ j, j < n → At w X b (off + j * sz) (f j)
theorem RowAt.kept {w w' : World} {X S : Nat → Prop} {sz : Nat} {A : Option Addr} {n c : Nat} {f : Nat → List Value} (h : RowAt w X sz A n c f) (hc : Chg S w w') (hn : ∀ k, X k → ¬ S k) : RowAt w' X sz A n c f :=
  ⟨h.le, h.max, fun h0 => by obtain ⟨b, off, e, hx⟩ := h.at_ h0; exact ⟨b, off, e, fun j hj => (hx j hj).kept hc hn⟩⟩
theorem RowAt.mono {w : World} {X Y : Nat → Prop} {sz : Nat} {A : Option Addr} {n c : Nat} {f : Nat → List Value} (h : RowAt w X sz A n c f) (hY : ∀ k, X k → Y k) : RowAt w Y sz A n c f :=
  ⟨h.le, h.max, fun h0 => by obtain ⟨b, off, e, hx⟩ := h.at_ h0; exact ⟨b, off, e, fun j hj => (hx j hj).mono hY⟩⟩

/-- the cells read as this tree; its blocks are among X -/
inductive IsExpr (w : World) (X : Nat → Prop) : ExprT → List Value → Prop
  | mk (op n : Int) (name : ByteArray) (l : List ExprT) (A : Option Addr) (c : Nat) (f : Nat → List Value) (hs : name.size ≤ 140737488355327) (hr : RowAt w X 4 A l.length c f) (h : ∀ j x, l[j]? = some x → IsExpr w X x (f j)) :
      IsExpr w X (.mk op n name l) [.int .i64 op, .int .i64 n, .string name, .slice A l.length c]
inductive IsStmt (w : World) (X : Nat → Prop) : StmtT → List Value → Prop
  | mk (op : Int) (name : ByteArray) (n : Int) (l : List ExprT) (body els : List StmtT) (A B E : Option Addr) (c cb ce : Nat) (f fb fe : Nat → List Value) (hs : name.size ≤ 140737488355327)
      (hr : RowAt w X 4 A l.length c f) (h : ∀ j x, l[j]? = some x → IsExpr w X x (f j))
      (hrb : RowAt w X 6 B body.length cb fb) (hb : ∀ j x, body[j]? = some x → IsStmt w X x (fb j))
      (hre : RowAt w X 6 E els.length ce fe) (he : ∀ j x, els[j]? = some x → IsStmt w X x (fe j)) :
      IsStmt w X (.mk op name n l body els) [.int .i64 op, .string name, .int .i64 n, .slice A l.length c, .slice B body.length cb, .slice E els.length ce]
/-- rows of trees -/
def Exprs (w : World) (X : Nat → Prop) (A : Option Addr) (c : Nat) (l : List ExprT) : Prop := ∃ f, RowAt w X 4 A l.length c f ∧ ∀ j x, l[j]? = some x → IsExpr w X x (f j)
def Stmts (w : World) (X : Nat → Prop) (A : Option Addr) (c : Nat) (l : List StmtT) : Prop := ∃ f, RowAt w X 6 A l.length c f ∧ ∀ j x, l[j]? = some x → IsStmt w X x (f j)

theorem IsExpr.kept {w w' : World} {X S : Nat → Prop} (hc : Chg S w w') (hn : ∀ k, X k → ¬ S k) {t : ExprT} {cs : List Value} (h : IsExpr w X t cs) : IsExpr w' X t cs := by
  induction h with
  | mk op n name l A c f hs hr h ih => exact .mk op n name l A c f hs (hr.kept hc hn) ih
theorem IsExpr.mono {w : World} {X Y : Nat → Prop} (hY : ∀ k, X k → Y k) {t : ExprT} {cs : List Value} (h : IsExpr w X t cs) : IsExpr w Y t cs := by
  induction h with
  | mk op n name l A c f hs hr h ih => exact .mk op n name l A c f hs (hr.mono hY) ih
theorem IsStmt.kept {w w' : World} {X S : Nat → Prop} (hc : Chg S w w') (hn : ∀ k, X k → ¬ S k) {t : StmtT} {cs : List Value} (h : IsStmt w X t cs) : IsStmt w' X t cs := by
  induction h with
  | mk op name n l body els A B E c cb ce f fb fe hs hr h hrb hb hre he ihb ihe => exact .mk op name n l body els A B E c cb ce f fb fe hs (hr.kept hc hn) (fun j x hx => (h j x hx).kept hc hn) (hrb.kept hc hn) ihb (hre.kept hc hn) ihe
theorem IsStmt.mono {w : World} {X Y : Nat → Prop} (hY : ∀ k, X k → Y k) {t : StmtT} {cs : List Value} (h : IsStmt w X t cs) : IsStmt w Y t cs := by
  induction h with
  | mk op name n l body els A B E c cb ce f fb fe hs hr h hrb hb hre he ihb ihe => exact .mk op name n l body els A B E c cb ce f fb fe hs (hr.mono hY) (fun j x hx => (h j x hx).mono hY) (hrb.mono hY) ihb (hre.mono hY) ihe
theorem Exprs.kept {w w' : World} {X S : Nat → Prop} {A : Option Addr} {c : Nat} {l : List ExprT} (h : Exprs w X A c l) (hc : Chg S w w') (hn : ∀ k, X k → ¬ S k) : Exprs w' X A c l := by
  obtain ⟨f, h1, h2⟩ := h
  exact ⟨f, h1.kept hc hn, fun j x hx => (h2 j x hx).kept hc hn⟩
theorem Exprs.mono {w : World} {X Y : Nat → Prop} {A : Option Addr} {c : Nat} {l : List ExprT} (h : Exprs w X A c l) (hY : ∀ k, X k → Y k) : Exprs w Y A c l := by
  obtain ⟨f, h1, h2⟩ := h
  exact ⟨f, h1.mono hY, fun j x hx => (h2 j x hx).mono hY⟩
theorem Stmts.kept {w w' : World} {X S : Nat → Prop} {A : Option Addr} {c : Nat} {l : List StmtT} (h : Stmts w X A c l) (hc : Chg S w w') (hn : ∀ k, X k → ¬ S k) : Stmts w' X A c l := by
  obtain ⟨f, h1, h2⟩ := h
  exact ⟨f, h1.kept hc hn, fun j x hx => (h2 j x hx).kept hc hn⟩
theorem Stmts.mono {w : World} {X Y : Nat → Prop} {A : Option Addr} {c : Nat} {l : List StmtT} (h : Stmts w X A c l) (hY : ∀ k, X k → Y k) : Stmts w Y A c l := by
  obtain ⟨f, h1, h2⟩ := h
  exact ⟨f, h1.mono hY, fun j x hx => (h2 j x hx).mono hY⟩
/-- what a call that lays new blocks alone leaves -/
theorem Below.chg {w w' : World} (h : Below w.heap.size w w') : Chg (fun _ => False) w w' := Chg.of_below h _
theorem IsExpr.keep {w w' : World} {X : Nat → Prop} {t : ExprT} {cs : List Value} (h : IsExpr w X t cs) (hb : Below w.heap.size w w') : IsExpr w' X t cs := h.kept (Below.chg hb) (fun _ _ x => x)
theorem IsStmt.keep {w w' : World} {X : Nat → Prop} {t : StmtT} {cs : List Value} (h : IsStmt w X t cs) (hb : Below w.heap.size w w') : IsStmt w' X t cs := h.kept (Below.chg hb) (fun _ _ x => x)
theorem Exprs.keep {w w' : World} {X : Nat → Prop} {A : Option Addr} {c : Nat} {l : List ExprT} (h : Exprs w X A c l) (hb : Below w.heap.size w w') : Exprs w' X A c l := h.kept (Below.chg hb) (fun _ _ x => x)
theorem Stmts.keep {w w' : World} {X : Nat → Prop} {A : Option Addr} {c : Nat} {l : List StmtT} (h : Stmts w X A c l) (hb : Below w.heap.size w w') : Stmts w' X A c l := h.kept (Below.chg hb) (fun _ _ x => x)
theorem bel_trans {a b c : World} (h1 : Below a.heap.size a b) (h2 : Below b.heap.size b c) : Below a.heap.size a c := h1.trans (h2.mono h1.size)

/-- the j-th of a row -/
theorem Exprs.get {w : World} {X : Nat → Prop} {A : Option Addr} {c : Nat} {l : List ExprT} (h : Exprs w X A c l) (j : Nat) (hj : j < l.length) :
    ∃ b off op n name B lc cc, A = some ⟨b, off, none⟩ ∧ IsExpr w X l[j] [.int .i64 op, .int .i64 n, .string name, .slice B lc cc] ∧ ∀ wx, Below w.heap.size w wx → wx.cell? ⟨b, off + j * 4, none⟩ = some (.int .i64 op) ∧ wx.cell? ⟨b, off + j * 4 + 1, none⟩ = some (.int .i64 n) ∧ wx.cell? ⟨b, off + j * 4 + 2, none⟩ = some (.string name) ∧ wx.cell? ⟨b, off + j * 4 + 3, none⟩ = some (.slice B lc cc) := by
  obtain ⟨f, h1, h2⟩ := h
  obtain ⟨b, off, e, hx⟩ := h1.at_ (by omega)
  have hat := hx j hj
  have hie := h2 j l[j] (List.getElem?_eq_getElem hj)
  generalize f j = cs at *
  generalize l[j] = t at *
  cases hie with
  | mk op n name l' B c' f' hs hr h =>
    refine ⟨b, off, op, n, name, B, l'.length, c', e, .mk op n name l' B c' f' hs hr h, fun wx hb => ?_⟩
    have := hat.kept (Below.chg hb) (fun _ _ x => x)
    exact ⟨this.2.2 0 _ rfl, this.2.2 1 _ rfl, this.2.2 2 _ rfl, this.2.2 3 _ rfl⟩
theorem Stmts.get {w : World} {X : Nat → Prop} {A : Option Addr} {c : Nat} {l : List StmtT} (h : Stmts w X A c l) (j : Nat) (hj : j < l.length) :
    ∃ b off op name n B lc cc B2 l2 c2 B3 l3 c3, A = some ⟨b, off, none⟩ ∧ IsStmt w X l[j] [.int .i64 op, .string name, .int .i64 n, .slice B lc cc, .slice B2 l2 c2, .slice B3 l3 c3] ∧ ∀ wx, Below w.heap.size w wx → wx.cell? ⟨b, off + j * 6, none⟩ = some (.int .i64 op) ∧ wx.cell? ⟨b, off + j * 6 + 1, none⟩ = some (.string name) ∧ wx.cell? ⟨b, off + j * 6 + 2, none⟩ = some (.int .i64 n) ∧ wx.cell? ⟨b, off + j * 6 + 3, none⟩ = some (.slice B lc cc) ∧ wx.cell? ⟨b, off + j * 6 + 4, none⟩ = some (.slice B2 l2 c2) ∧ wx.cell? ⟨b, off + j * 6 + 5, none⟩ = some (.slice B3 l3 c3) := by
  obtain ⟨f, h1, h2⟩ := h
  obtain ⟨b, off, e, hx⟩ := h1.at_ (by omega)
  have hat := hx j hj
  have hie := h2 j l[j] (List.getElem?_eq_getElem hj)
  generalize f j = cs at *
  generalize l[j] = t at *
  cases hie with
  | mk op name n l' body els A' B' E' c' cb ce f' fb fe hs hr h hrb hb hre he =>
    refine ⟨b, off, op, name, n, A', l'.length, c', B', body.length, cb, E', els.length, ce, e, .mk op name n l' body els A' B' E' c' cb ce f' fb fe hs hr h hrb hb hre he, fun wx hbx => ?_⟩
    have := hat.kept (Below.chg hbx) (fun _ _ x => x)
    exact ⟨this.2.2 0 _ rfl, this.2.2 1 _ rfl, this.2.2 2 _ rfl, this.2.2 3 _ rfl, this.2.2 4 _ rfl, this.2.2 5 _ rfl⟩
end Go.Proofs.Ytnpmgnfohaeonaa
