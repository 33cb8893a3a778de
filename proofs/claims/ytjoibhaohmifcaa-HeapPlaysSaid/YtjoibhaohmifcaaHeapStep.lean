/- The steps of the laws on heaps, as they read. -/
import Derived.Test.YtjoibhaohmifcaaRd
namespace Go.Proofs.Ytjoibhaohmifcaa
set_option linter.unusedVariables false
set_option linter.unusedSimpArgs false
open Go.ChangeShapes Go.WideShapes Go.ChangeAt Go.RowKit

structure Step where
  kind : Int
  id : Int
  i : Int
  v : Int
def rdStep : Rd Step := ⟨4, fun _ s cs => cs = [.int .i64 s.kind, .int .i64 s.id, .int .i64 s.i, .int .i64 s.v] ∧ (Lit.int .i64 s.kind).wf = true ∧ (Lit.int .i64 s.id).wf = true ∧ (Lit.int .i64 s.i).wf = true ∧ (Lit.int .i64 s.v).wf = true⟩
theorem opens_step (n : Nat) : Rd.Opens Try.prog 32 rdStep n := fun H enc W base spare held fuel cs x hf h hw => by
  obtain ⟨m, _, hl, hp⟩ := Rd.open_struct [3, 3, 2, 2] Try.underlying32 (by kernel_rfl) (by kernel_rfl) (by kernel_rfl) h hw
  match cs, hl with
  | [c0, c1, c2, c3], _ =>
    obtain ⟨y0, h0, _⟩ := hp 0 _ c0 rfl rfl
    obtain ⟨y1, h1, _⟩ := hp 1 _ c1 rfl rfl
    obtain ⟨y2, h2, _⟩ := hp 2 _ c2 rfl rfl
    obtain ⟨y3, h3, _⟩ := hp 3 _ c3 rfl rfl
    obtain ⟨a0, e0, _, w0⟩ := DataW.trod_int Try.underlying3 h0
    obtain ⟨a1, e1, _, w1⟩ := DataW.trod_int Try.underlying3 h1
    obtain ⟨a2, e2, _, w2⟩ := DataW.trod_int Try.underlying2 h2
    obtain ⟨a3, e3, _, w3⟩ := DataW.trod_int Try.underlying2 h3
    simp only [List.cons.injEq, and_true] at e0 e1 e2 e3
    subst e0; subst e1; subst e2; subst e3
    exact ⟨⟨a0, a1, a2, a3⟩, ⟨rfl, w0, w1, w2, w3⟩, rfl⟩
/-- a row of steps -/
def rdSteps : Rd (List Step) := Rd.slice rdStep 32
theorem opens_steps (n : Nat) : Rd.Opens Try.prog 22 rdSteps n := fun H enc W base spare held fuel cs x hf =>
  Rd.opens_slice Try.underlying22 (by kernel_rfl) (by decide) (by kernel_rfl) (opens_step n) H enc W base spare held fuel cs x (by omega)

/-- the cells of a step, in whatever world comes later -/
theorem step_cells {w : World} {A : Option Addr} {l : List Step} (h : rdStep.C w A l) (j : Nat) (hj : j < l.length) :
    ∃ b off s, A = some ⟨b, off, none⟩ ∧ l[j]? = some s ∧ b < w.heap.size ∧ (Lit.int .i64 s.kind).wf = true ∧ (Lit.int .i64 s.id).wf = true ∧ (Lit.int .i64 s.i).wf = true ∧ (Lit.int .i64 s.v).wf = true ∧
      ∀ w0 wx, w0 = w → Below w0.heap.size w0 wx → wx.cell? ⟨b, off + j * 4, none⟩ = some (.int .i64 s.kind) ∧ wx.cell? ⟨b, off + j * 4 + 1, none⟩ = some (.int .i64 s.id) ∧ wx.cell? ⟨b, off + j * 4 + 2, none⟩ = some (.int .i64 s.i) ∧ wx.cell? ⟨b, off + j * 4 + 3, none⟩ = some (.int .i64 s.v) := by
  obtain ⟨b, off, rfl, hx⟩ := h (by omega)
  obtain ⟨cs, _, hc, rfl, w0, w1, w2, w3⟩ := hx j l[j] (by simp [hj])
  refine ⟨b, off, l[j], rfl, by simp [hj], World.block_lt_of_cell? w _ (hc 0 _ rfl), w0, w1, w2, w3, ?_⟩
  rintro _ wx rfl hb
  have := hc.keep hb
  exact ⟨this 0 _ rfl, this 1 _ rfl, this 2 _ rfl, this 3 _ rfl⟩
end Go.Proofs.Ytjoibhaohmifcaa
