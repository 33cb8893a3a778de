/- label: how programs that came in read. -/
import Derived.Test.YtnpmgnfohaeonaaLabRd
import Derived.Test.YtnpmgnfohaeonaaLabCheck
namespace Go.Proofs.Ytnpmgnfohaeonaa
set_option linter.unusedVariables false
set_option linter.unusedSimpArgs false
open Go.ChangeShapes Go.WideShapes Go.ChangeAt Go.RowKit

theorem RowAt.congr {w : World} {X : Nat → Prop} {sz : Nat} {A : Option Addr} {n c : Nat} {f g : Nat → List Value} (h : RowAt w X sz A n c f) (he : ∀ j, j < n → f j = g j) : RowAt w X sz A n c g :=
  ⟨h.le, h.max, fun h0 => by
    obtain ⟨b, off, e, hx⟩ := h.at_ h0
    exact ⟨b, off, e, fun j hj => by rw [← he j hj]; exact hx j hj⟩⟩

def rdStmt : Rd StmtT := ⟨6, fun w t cs => IsStmt w (Lt w) t cs⟩
theorem stmts_of {w : World} {c : Value} {xs : List StmtT} (h : (Rd.slice rdStmt 104).K w xs [c]) : ∃ A cp, c = .slice A xs.length cp ∧ Stmts w (Lt w) A cp xs := by
  obtain ⟨A, cp, e, h1, h2, h3⟩ := h
  simp only [List.cons.injEq, and_true] at e
  obtain ⟨f, g1, g2⟩ := rowAt_of (d := rdStmt) h1 (by omega) (by decide) h3
  exact ⟨A, cp, e, f, g1, g2⟩
theorem opens_stmt : ∀ n, Rd.Opens Try.prog 42 rdStmt n
  | 0 => fun H enc W base spare held fuel cs x hf h hw => by
    obtain ⟨m, hm, _⟩ := Rd.open_struct [3, 9, 2, 26, 23, 23] Try.underlying42 (by kernel_rfl) (by kernel_rfl) (by kernel_rfl) h hw
    omega
  | n + 1 => fun H enc W base spare held fuel cs x hf h hw => by
    obtain ⟨m, hm, hl, hp⟩ := Rd.open_struct [3, 9, 2, 26, 23, 23] Try.underlying42 (by kernel_rfl) (by kernel_rfl) (by kernel_rfl) h hw
    match cs, hl with
    | [c0, c1, c2, c3, c4, c5], _ =>
      obtain ⟨y0, h0, _⟩ := hp 0 _ c0 rfl rfl
      obtain ⟨y1, h1, w1⟩ := hp 1 _ c1 rfl rfl
      obtain ⟨y2, h2, _⟩ := hp 2 _ c2 rfl rfl
      obtain ⟨y3, h3, w3⟩ := hp 3 _ c3 rfl rfl
      obtain ⟨y4, h4, w4⟩ := hp 4 _ c4 rfl rfl
      obtain ⟨y5, h5, w5⟩ := hp 5 _ c5 rfl rfl
      obtain ⟨a0, e0, _, _⟩ := DataW.trod_int Try.underlying3 h0
      obtain ⟨s, ⟨e1, hs⟩, _⟩ := Rd.opens_str Try.underlying9 m H enc W base spare held m [c1] y1 (Nat.le_refl _) h1 w1
      obtain ⟨a2, e2, _, _⟩ := DataW.trod_int Try.underlying2 h2
      obtain ⟨xs, hk, _⟩ := Rd.opens_slice (bytes := 56) Try.underlying26 (by kernel_rfl) (by decide) (by kernel_rfl) (opens_expr n) H enc W base spare held m [c3] y3 (by omega) h3 w3
      obtain ⟨A, cp, e3, hx⟩ := exprs_of hk
      obtain ⟨ys, hk4, _⟩ := Rd.opens_slice (bytes := 104) Try.underlying23 (by kernel_rfl) (by decide) (by kernel_rfl) (opens_stmt n) H enc W base spare held m [c4] y4 (by omega) h4 w4
      obtain ⟨B, cb, e4, hy⟩ := stmts_of hk4
      obtain ⟨zs, hk5, _⟩ := Rd.opens_slice (bytes := 104) Try.underlying23 (by kernel_rfl) (by decide) (by kernel_rfl) (opens_stmt n) H enc W base spare held m [c5] y5 (by omega) h5 w5
      obtain ⟨E, ce, e5, hz⟩ := stmts_of hk5
      simp only [List.cons.injEq, and_true] at e0 e1 e2
      subst e0 e1 e2 e3 e4 e5
      exact ⟨.mk a0 s a2 xs ys zs, isStmt_of (Nat.le_trans hs (by decide)) hx hy hz rfl rfl rfl, rfl⟩

theorem strs_of {w : World} {c : Value} {xs : List ByteArray} (h : (Rd.slice Rd.str 16).K w xs [c]) : ∃ A cp, c = .slice A xs.length cp ∧ Strs w (Lt w) A cp xs := by
  obtain ⟨A, cp, e, h1, h2, h3⟩ := h
  simp only [List.cons.injEq, and_true] at e
  obtain ⟨f, g1, g2⟩ := rowAt_of (d := Rd.str) h1 (by omega) (by decide) h3
  refine ⟨A, cp, e, g1.congr (fun j hj => ?_), fun s hs => ?_⟩
  · obtain ⟨e1, _⟩ := g2 j xs[j] (List.getElem?_eq_getElem hj)
    rw [e1, List.getD_eq_getElem?_getD, List.getElem?_eq_getElem hj]
    rfl
  · obtain ⟨j, hj, rfl⟩ := List.getElem_of_mem hs
    exact Nat.le_trans (g2 j xs[j] (List.getElem?_eq_getElem hj)).2 (by decide)

def rdFunc : Rd FuncT := ⟨3, fun w x cs => ∃ v : FuncV, cs = v.cells ∧ IsFunc w (Lt w) x v⟩
theorem opens_func : ∀ n, Rd.Opens Try.prog 38 rdFunc n
  | 0 => fun H enc W base spare held fuel cs x hf h hw => by
    obtain ⟨m, hm, _⟩ := Rd.open_struct [9, 36, 23] Try.underlying38 (by kernel_rfl) (by kernel_rfl) (by kernel_rfl) h hw
    omega
  | n + 1 => fun H enc W base spare held fuel cs x hf h hw => by
    obtain ⟨m, hm, hl, hp⟩ := Rd.open_struct [9, 36, 23] Try.underlying38 (by kernel_rfl) (by kernel_rfl) (by kernel_rfl) h hw
    match cs, hl with
    | [c0, c1, c2], _ =>
      obtain ⟨y0, h0, w0⟩ := hp 0 _ c0 rfl rfl
      obtain ⟨y1, h1, w1⟩ := hp 1 _ c1 rfl rfl
      obtain ⟨y2, h2, w2⟩ := hp 2 _ c2 rfl rfl
      obtain ⟨s, ⟨e0, hs⟩, _⟩ := Rd.opens_str Try.underlying9 m H enc W base spare held m [c0] y0 (Nat.le_refl _) h0 w0
      obtain ⟨xs, hk, _⟩ := Rd.opens_slice (bytes := 16) Try.underlying36 (by kernel_rfl) (by decide) (by kernel_rfl) (Rd.opens_str Try.underlying9 n) H enc W base spare held m [c1] y1 (by omega) h1 w1
      obtain ⟨A, cp, e1, hx⟩ := strs_of hk
      obtain ⟨ys, hk2, _⟩ := Rd.opens_slice (bytes := 104) Try.underlying23 (by kernel_rfl) (by decide) (by kernel_rfl) (opens_stmt n) H enc W base spare held m [c2] y2 (by omega) h2 w2
      obtain ⟨B, cb, e2, hy⟩ := stmts_of hk2
      simp only [List.cons.injEq, and_true] at e0
      subst e0 e1 e2
      exact ⟨⟨s, xs, ys⟩, ⟨⟨s, A, xs.length, cp, B, ys.length, cb⟩, rfl, rfl, (Nat.le_trans hs (by decide)), rfl, hx, rfl, hy⟩, rfl⟩
theorem funcs_of {w : World} {c : Value} {xs : List FuncT} (h : (Rd.slice rdFunc 64).K w xs [c]) : ∃ A cp, c = .slice A xs.length cp ∧ Funcs w (Lt w) A cp xs := by
  obtain ⟨A, cp, e, h1, h2, h3⟩ := h
  simp only [List.cons.injEq, and_true] at e
  obtain ⟨f, g1, g2⟩ := rowAt_of (d := rdFunc) h1 (by omega) (by decide) h3
  have hv : ∀ j : Nat, ∃ v : FuncV, ∀ x, xs[j]? = some x → f j = v.cells ∧ IsFunc w (Lt w) x v := fun j => by
    by_cases hj : j < xs.length
    · obtain ⟨v, e1, e2⟩ := g2 j xs[j] (List.getElem?_eq_getElem hj)
      refine ⟨v, fun x hx => ?_⟩
      rw [List.getElem?_eq_getElem hj] at hx
      injection hx with hx
      rw [← hx]
      exact ⟨e1, e2⟩
    · exact ⟨⟨ByteArray.empty, none, 0, 0, none, 0, 0⟩, fun x hx => absurd (List.getElem?_eq_some_iff.1 hx).1 hj⟩
  exact ⟨A, cp, e, fun j => Classical.choose (hv j), g1.congr (fun j hj => (Classical.choose_spec (hv j) xs[j] (List.getElem?_eq_getElem hj)).1), fun j x hx => (Classical.choose_spec (hv j) x hx).2⟩

def rdProg : Rd ProgT := ⟨2, fun w p cs => ∃ A c B cb, cs = [.slice A p.funcs.length c, .slice B p.main.length cb] ∧ Funcs w (Lt w) A c p.funcs ∧ Stmts w (Lt w) B cb p.main⟩
theorem opens_prog : ∀ n, Rd.Opens Try.prog 25 rdProg n := fun n H enc W base spare held fuel cs x hf h hw => by
    obtain ⟨m, hm, hl, hp⟩ := Rd.open_struct [22, 23] Try.underlying25 (by kernel_rfl) (by kernel_rfl) (by kernel_rfl) h hw
    match cs, hl with
    | [c0, c1], _ =>
      obtain ⟨y0, h0, w0⟩ := hp 0 _ c0 rfl rfl
      obtain ⟨y1, h1, w1⟩ := hp 1 _ c1 rfl rfl
      obtain ⟨xs, hk, _⟩ := Rd.opens_slice (bytes := 64) Try.underlying22 (by kernel_rfl) (by decide) (by kernel_rfl) (opens_func m) H enc W base spare held m [c0] y0 (by omega) h0 w0
      obtain ⟨A, cp, e0, hx⟩ := funcs_of hk
      obtain ⟨ys, hk2, _⟩ := Rd.opens_slice (bytes := 104) Try.underlying23 (by kernel_rfl) (by decide) (by kernel_rfl) (opens_stmt m) H enc W base spare held m [c1] y1 (by omega) h1 w1
      obtain ⟨B, cb, e1, hy⟩ := stmts_of hk2
      subst e0 e1
      exact ⟨⟨xs, ys⟩, ⟨A, cp, B, cb, rfl, hx, hy⟩, rfl⟩
end Go.Proofs.Ytnpmgnfohaeonaa
