/- label: how programs and expressions that came in read. -/
import Derived.Test.YtnpmgnfohaeonaaLabSh
import Derived.Test.YtnpmgnfohaeonaaRd
namespace Go.Proofs.Ytnpmgnfohaeonaa
set_option linter.unusedVariables false
set_option linter.unusedSimpArgs false
open Go.ChangeShapes Go.WideShapes Go.ChangeAt Go.RowKit

/-- a row of things that read one by one -/
theorem rowAt_of {α : Type} {d : Rd α} {w : World} {A : Option Addr} {xs : List α} {c : Nat} (hc : xs.length ≤ c) (hm : xs.length ≤ 8796093022208) (h0 : 0 < d.sz) (h : d.C w A xs) : ∃ f : Nat → List Value, RowAt w (Lt w) d.sz A xs.length c f ∧ ∀ j x, xs[j]? = some x → d.K w x (f j) := by
  by_cases hl : 0 < xs.length
  · obtain ⟨b, off, rfl, hx⟩ := h hl
    have hx' : ∀ j : Nat, ∃ cs : List Value, j < xs.length → cs.length = d.sz ∧ cellsAt w b (off + j * d.sz) cs ∧ ∀ x, xs[j]? = some x → d.K w x cs := fun j => by
      by_cases hj : j < xs.length
      · obtain ⟨cs, g1, g2, g3⟩ := hx j xs[j] (List.getElem?_eq_getElem hj)
        exact ⟨cs, fun _ => ⟨g1, g2, fun x hxx => by rw [List.getElem?_eq_getElem hj] at hxx; injection hxx with hxx; rw [← hxx]; exact g3⟩⟩
      · exact ⟨[], fun h => absurd h hj⟩
    refine ⟨fun j => Classical.choose (hx' j), ⟨hc, hm, fun _ => ⟨b, off, rfl, fun j hj => ?_⟩⟩, fun j x hxx => ?_⟩
    · obtain ⟨g1, g2, g3⟩ := Classical.choose_spec (hx' j) hj
      have hb : b < w.heap.size := by
        have : (Classical.choose (hx' j))[0]? = some ((Classical.choose (hx' j))[0]'(by omega)) := List.getElem?_eq_getElem _
        exact World.block_lt_of_cell? w _ (g2 0 _ this)
      exact ⟨hb, hb, fun i u hu => g2 i u hu⟩
    · have hj := (List.getElem?_eq_some_iff.1 hxx).1
      exact (Classical.choose_spec (hx' j) hj).2.2 x hxx
  · have : xs = [] := List.length_eq_zero_iff.1 (by omega)
    subst this
    exact ⟨fun _ => [], ⟨hc, hm, fun h => absurd h hl⟩, fun j x hxx => by simp at hxx⟩

def rdExpr : Rd ExprT := ⟨4, fun w t cs => IsExpr w (Lt w) t cs⟩
theorem exprs_of {w : World} {c : Value} {xs : List ExprT} (h : (Rd.slice rdExpr 56).K w xs [c]) : ∃ A cp, c = .slice A xs.length cp ∧ Exprs w (Lt w) A cp xs := by
  obtain ⟨A, cp, e, h1, h2, h3⟩ := h
  simp only [List.cons.injEq, and_true] at e
  obtain ⟨f, g1, g2⟩ := rowAt_of (d := rdExpr) h1 (by omega) (by decide) h3
  exact ⟨A, cp, e, f, g1, g2⟩
theorem opens_expr : ∀ n, Rd.Opens Try.prog 28 rdExpr n
  | 0 => fun H enc W base spare held fuel cs x hf h hw => by
    obtain ⟨m, hm, _⟩ := Rd.open_struct [3, 2, 9, 26] Try.underlying28 (by kernel_rfl) (by kernel_rfl) (by kernel_rfl) h hw
    omega
  | n + 1 => fun H enc W base spare held fuel cs x hf h hw => by
    obtain ⟨m, hm, hl, hp⟩ := Rd.open_struct [3, 2, 9, 26] Try.underlying28 (by kernel_rfl) (by kernel_rfl) (by kernel_rfl) h hw
    match cs, hl with
    | [c0, c1, c2, c3], _ =>
      obtain ⟨y0, h0, _⟩ := hp 0 _ c0 rfl rfl
      obtain ⟨y1, h1, _⟩ := hp 1 _ c1 rfl rfl
      obtain ⟨y2, h2, w2⟩ := hp 2 _ c2 rfl rfl
      obtain ⟨y3, h3, w3⟩ := hp 3 _ c3 rfl rfl
      obtain ⟨a0, e0, _, _⟩ := DataW.trod_int Try.underlying3 h0
      obtain ⟨a1, e1, _, _⟩ := DataW.trod_int Try.underlying2 h1
      obtain ⟨s, ⟨e2, hs⟩, _⟩ := Rd.opens_str Try.underlying9 m H enc W base spare held m [c2] y2 (Nat.le_refl _) h2 w2
      obtain ⟨xs, hk, _⟩ := Rd.opens_slice (bytes := 56) Try.underlying26 (by kernel_rfl) (by decide) (by kernel_rfl) (opens_expr n) H enc W base spare held m [c3] y3 (by omega) h3 w3
      obtain ⟨A, cp, e3, hx⟩ := exprs_of hk
      simp only [List.cons.injEq, and_true] at e0 e1 e2
      subst e0 e1 e2 e3
      exact ⟨.mk a0 a1 s xs, isExpr_of (Nat.le_trans hs (by decide)) hx rfl, rfl⟩
end Go.Proofs.Ytnpmgnfohaeonaa
