/- label: shown. -/
import Derived.Test.YtnpmgnfohaeonaaLabMake
import Derived.Deep.CutRange
import Derived.Deep.CutBlock
namespace Go.Proofs.Ytnpmgnfohaeonaa
set_option linter.unusedVariables false
set_option linter.unusedSimpArgs false
open Go.RowKit

theorem small1 (c : UInt8) : (⟨#[c]⟩ : ByteArray).size ≤ 140737488355327 := by simp [ByteArray.size]
abbrev Lt (w : World) (k : Nat) : Prop := k < w.heap.size
/-- the function, and the call, of the tests in memory -/
structure ShF (w : World) (P E S : Nat) (nm : ByteArray) (F : Nat) : Prop where
  hP : w.heap[P]? = some (.cells #[.string ⟨#[97]⟩, .string ⟨#[66]⟩] 9 (0, 0))
  hE : w.heap[E]? = some (.cells #[.int .i64 2, .int .i64 0, .string nm, .slice none 0 0] 28 (0, 0))
  hS : w.heap[S]? = some (.cells #[.int .i64 9, .string ⟨#[]⟩, .int .i64 0, .slice (some ⟨E, 0, none⟩) 1 1, .slice none 0 0, .slice none 0 0] 42 (0, 0))
  bF : w.heap[F]? = some (.cells #[.string ⟨#[102]⟩, .slice (some ⟨P, 0, none⟩) 2 2, .slice (some ⟨S, 0, none⟩) 1 1] 38 (0, 0))
theorem ShF.keep {w w' : World} {P E S F : Nat} {nm : ByteArray} (h : ShF w P E S nm F) (hc : Chg (fun _ => False) w w') : ShF w' P E S nm F := ⟨hc.heap h.hP (fun x => x), hc.heap h.hE (fun x => x), hc.heap h.hS (fun x => x), hc.heap h.bF (fun x => x)⟩
structure ShC (w : World) (C : Nat) (n1 n2 : ByteArray) (T : Nat) : Prop where
  hC : w.heap[C]? = some (.cells #[.int .i64 2, .int .i64 0, .string n1, .slice none 0 0, .int .i64 2, .int .i64 0, .string n2, .slice none 0 0] 28 (0, 0))
  bT : w.heap[T]? = some (.cells #[.int .i64 5, .int .i64 0, .string ⟨#[102]⟩, .slice (some ⟨C, 0, none⟩) 2 2] 28 (0, 0))
theorem ShC.keep {w w' : World} {C T : Nat} {n1 n2 : ByteArray} (h : ShC w C n1 n2 T) (hc : Chg (fun _ => False) w w') : ShC w' C n1 n2 T := ⟨hc.heap h.hC (fun x => x), hc.heap h.bT (fun x => x)⟩
theorem ShC.setT {w : World} {C T : Nat} {n1 n2 : ByteArray} (h : ShC w C n1 n2 T) (C' : Nat) : (w.setCell ⟨T, 3, none⟩ (.slice (some ⟨C', 0, none⟩) 2 2)).heap[T]? = some (.cells #[.int .i64 5, .int .i64 0, .string ⟨#[102]⟩, .slice (some ⟨C', 0, none⟩) 2 2] 28 (0, 0)) := heap_set h.bT 3 _
theorem ShF.setT {w : World} {P E S F C T : Nat} {nm n1 n2 : ByteArray} (h : ShF w P E S nm F) (hc : ShC w C n1 n2 T) (v : Value) : ShF (w.setCell ⟨T, 3, none⟩ v) P E S nm F := by
  have n1 : P ≠ T := fun e => by have a := h.hP; rw [e, hc.bT] at a; cases a
  have n2 : E ≠ T := fun e => by have a := h.hE; rw [e, hc.bT] at a; cases a
  have n3 : S ≠ T := fun e => by have a := h.hS; rw [e, hc.bT] at a; cases a
  have n4 : F ≠ T := fun e => by have a := h.bF; rw [e, hc.bT] at a; cases a
  exact ⟨(heap_set_ne _ n1).trans h.hP, (heap_set_ne _ n2).trans h.hE, (heap_set_ne _ n3).trans h.hS, (heap_set_ne _ n4).trans h.bF⟩
theorem ShF.ne {w : World} {P E S F : Nat} {nm : ByteArray} (h : ShF w P E S nm F) : P ≠ F := fun e => by have a := h.hP; rw [e, h.bF] at a; cases a
def shFn (nm : ByteArray) : FuncT := ⟨⟨#[102]⟩, [⟨#[97]⟩, ⟨#[66]⟩], [.mk 9 ⟨#[]⟩ 0 [varT nm] [] []]⟩
def shCall (n1 n2 : ByteArray) : ExprT := .mk 5 0 ⟨#[102]⟩ [varT n1, varT n2]
theorem var_at {w : World} {b : Nat} {nm : ByteArray} (h : w.heap[b]? = some (.cells #[.int .i64 2, .int .i64 0, .string nm, .slice none 0 0] 28 (0, 0))) (hn : nm.size ≤ 140737488355327) : Exprs w (Lt w) (some ⟨b, 0, none⟩) 1 [varT nm] :=
  exprs_one (ds := [.int .i64 2, .int .i64 0, .string nm, .slice none 0 0]) h (lt_of_heap h) (isExpr_var _ _ _ hn)
theorem ShF.isFunc {w : World} {P E S F : Nat} {nm : ByteArray} (h : ShF w P E S nm F) (hn : nm.size ≤ 140737488355327) : IsFunc w (Lt w) (shFn nm) ⟨⟨#[102]⟩, some ⟨P, 0, none⟩, 2, 2, some ⟨S, 0, none⟩, 1, 1⟩ :=
  ⟨rfl, small1 _, rfl, strs_two h.hP (lt_of_heap h.hP) (small1 _) (small1 _), rfl, stmts_one (ds := [.int .i64 9, .string ⟨#[]⟩, .int .i64 0, .slice (some ⟨E, 0, none⟩) 1 1, .slice none 0 0, .slice none 0 0]) h.hS (lt_of_heap h.hS) (isStmt_of (by decide) (var_at h.hE hn) (stmts_nil _ _) (stmts_nil _ _) rfl rfl rfl)⟩
theorem ShC.isExpr {w : World} {C T : Nat} {n1 n2 : ByteArray} (h : ShC w C n1 n2 T) (h1 : n1.size ≤ 140737488355327) (h2 : n2.size ≤ 140737488355327) : IsExpr w (Lt w) (shCall n1 n2) [.int .i64 5, .int .i64 0, .string ⟨#[102]⟩, .slice (some ⟨C, 0, none⟩) 2 2] :=
  isExpr_of (small1 _) (exprs_two (ds := [.int .i64 2, .int .i64 0, .string n1, .slice none 0 0]) (es := [.int .i64 2, .int .i64 0, .string n2, .slice none 0 0]) h.hC (lt_of_heap h.hC) rfl (isExpr_var _ _ _ h1) (isExpr_var _ _ _ h2)) rfl
/-- a program of one assignment -/
theorem set_at {w : World} {R b : Nat} {s : ByteArray} {t : ExprT} {d0 d1 d2 d3 : Value} (hR : w.heap[R]? = some (.cells #[.int .i64 1, .string s, .int .i64 0, .slice (some ⟨b, 0, none⟩) 1 1, .slice none 0 0, .slice none 0 0] 42 (0, 0))) (hb : w.heap[b]? = some (.cells #[d0, d1, d2, d3] 28 (0, 0))) (hs : s.size ≤ 140737488355327) (ht : IsExpr w (Lt w) t [d0, d1, d2, d3]) :
    Stmts w (Lt w) (some ⟨R, 0, none⟩) 1 [setT s t] :=
  stmts_one (ds := [.int .i64 1, .string s, .int .i64 0, .slice (some ⟨b, 0, none⟩) 1 1, .slice none 0 0, .slice none 0 0]) hR (lt_of_heap hR) (isStmt_of hs (exprs_one (ds := [d0, d1, d2, d3]) hb (lt_of_heap hb) ht) (stmts_nil _ _) (stmts_nil _ _) rfl rfl rfl)
theorem sets_at {w : World} {R b b' : Nat} {s s' : ByteArray} {nm nm' : ByteArray} (hR : w.heap[R]? = some (.cells #[.int .i64 1, .string s, .int .i64 0, .slice (some ⟨b, 0, none⟩) 1 1, .slice none 0 0, .slice none 0 0, .int .i64 1, .string s', .int .i64 0, .slice (some ⟨b', 0, none⟩) 1 1, .slice none 0 0, .slice none 0 0] 42 (0, 0)))
    (hb : w.heap[b]? = some (.cells #[.int .i64 2, .int .i64 0, .string nm, .slice none 0 0] 28 (0, 0))) (hb' : w.heap[b']? = some (.cells #[.int .i64 2, .int .i64 0, .string nm', .slice none 0 0] 28 (0, 0))) (hs : s.size ≤ 140737488355327) (hs' : s'.size ≤ 140737488355327) (hn : nm.size ≤ 140737488355327) (hn' : nm'.size ≤ 140737488355327) :
    Stmts w (Lt w) (some ⟨R, 0, none⟩) 2 [setT s (varT nm), setT s' (varT nm')] :=
  stmts_two (ds := [.int .i64 1, .string s, .int .i64 0, .slice (some ⟨b, 0, none⟩) 1 1, .slice none 0 0, .slice none 0 0]) (es := [.int .i64 1, .string s', .int .i64 0, .slice (some ⟨b', 0, none⟩) 1 1, .slice none 0 0, .slice none 0 0]) hR (lt_of_heap hR) rfl (isStmt_of hs (var_at hb hn) (stmts_nil _ _) (stmts_nil _ _) rfl rfl rfl) (isStmt_of hs' (var_at hb' hn') (stmts_nil _ _) (stmts_nil _ _) rfl rfl rfl)
theorem while_at {w : World} {R b : Nat} {op : Int} {nm : ByteArray} (hR : w.heap[R]? = some (.cells #[.int .i64 op, .string ⟨#[]⟩, .int .i64 0, .slice (some ⟨b, 0, none⟩) 1 1, .slice none 0 0, .slice none 0 0] 42 (0, 0))) (hb : w.heap[b]? = some (.cells #[.int .i64 2, .int .i64 0, .string nm, .slice none 0 0] 28 (0, 0))) (hn : nm.size ≤ 140737488355327) :
    Stmts w (Lt w) (some ⟨R, 0, none⟩) 1 [.mk op ⟨#[]⟩ 0 [varT nm] [] []] :=
  stmts_one (ds := [.int .i64 op, .string ⟨#[]⟩, .int .i64 0, .slice (some ⟨b, 0, none⟩) 1 1, .slice none 0 0, .slice none 0 0]) hR (lt_of_heap hR) (isStmt_of (by decide) (var_at hb hn) (stmts_nil _ _) (stmts_nil _ _) rfl rfl rfl)

theorem gX : great ⟨#[88]⟩ = true := by decide
theorem gY : great ⟨#[89]⟩ = true := by decide
theorem gB : great ⟨#[66]⟩ = true := by decide
theorem ga : great ⟨#[97]⟩ = false := by decide
theorem gf : great ⟨#[102]⟩ = false := by decide
theorem gx : great ⟨#[120]⟩ = false := by decide
theorem gy : great ⟨#[121]⟩ = false := by decide
theorem secE_var (s : ByteArray) : secE (varT s) = great s := by unfold varT; rw [secE_eq]; simp
theorem tellE_var (prm : ByteArray → List ByteArray) (s : ByteArray) : tellE prm (varT s) = false := by unfold varT; rw [tellE_eq]; simp [ownE]
theorem v1 : checkv ⟨[], [setT ⟨#[120]⟩ (varT ⟨#[89]⟩)]⟩ = 5 := by simp [checkv, badP, setT, tellS_eq, ownS, leaksv, secE_var, gY, gx]
theorem v2 : checkv ⟨[], [setT ⟨#[88]⟩ (varT ⟨#[89]⟩), setT ⟨#[120]⟩ (varT ⟨#[121]⟩)]⟩ = 0 := by simp [checkv, badP, setT, tellS_eq, ownS, leaksv, secE_var, gX, gY, gx, gy, tellE_var]
theorem v3 : checkv ⟨[shFn ⟨#[97]⟩], [setT ⟨#[120]⟩ (shCall ⟨#[88]⟩ ⟨#[89]⟩)]⟩ = 5 := by simp [checkv, badP, setT, tellS_eq, tellE_eq, ownS, ownE, leaksv, secE_var, secE_eq, shCall, shFn, prms, callv, gX, gY, gx, gf, ga, gB, tellE_var]
theorem v4 : checkv ⟨[shFn ⟨#[97]⟩], [setT ⟨#[120]⟩ (shCall ⟨#[120]⟩ ⟨#[89]⟩)]⟩ = 0 := by simp [checkv, badP, setT, tellS_eq, tellE_eq, ownS, ownE, leaksv, secE_var, secE_eq, shCall, shFn, prms, callv, gX, gY, gx, gf, ga, gB, tellE_var]
theorem v5 : checkv ⟨[shFn ⟨#[66]⟩], []⟩ = 5 := by simp [checkv, badP, tellS_eq, ownS, leaksv, secE_var, shFn, gf, gB, tellE_var]
theorem v6 : checkv ⟨[], [.mk 8 ⟨#[]⟩ 0 [varT ⟨#[88]⟩] [] []]⟩ = 5 := by simp [checkv, badP, tellS_eq, ownS, leaksv, secE_var, gX]
end Go.Proofs.Ytnpmgnfohaeonaa
