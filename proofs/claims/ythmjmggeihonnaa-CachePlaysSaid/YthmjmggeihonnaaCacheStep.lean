/- The steps of the laws on caches, as they read. -/
import Derived.Test.YthmjmggeihonnaaRd
import Derived.Test.YthmjmggeihonnaaCacheRow
namespace Go.Proofs.Ythmjmggeihonnaa
set_option linter.unusedVariables false
set_option linter.unusedSimpArgs false
open Go.ChangeShapes Go.WideShapes Go.ChangeAt Go.RowKit

def rdIns : Rd InsR := ⟨3, fun _ s cs => cs = s.cells⟩
theorem opens_ins (n : Nat) : Rd.Opens Try.prog 40 rdIns n := fun H enc W base spare held fuel cs x hf h hw => by
  obtain ⟨m, _, hl, hp⟩ := Rd.open_struct [3, 3, 2] Try.underlying40 (by kernel_rfl) (by kernel_rfl) (by kernel_rfl) h hw
  match cs, hl with
  | [c0, c1, c2], _ =>
    obtain ⟨y0, h0, _⟩ := hp 0 _ c0 rfl rfl
    obtain ⟨y1, h1, _⟩ := hp 1 _ c1 rfl rfl
    obtain ⟨y2, h2, _⟩ := hp 2 _ c2 rfl rfl
    obtain ⟨a0, e0, _, w0⟩ := DataW.trod_int Try.underlying3 h0
    obtain ⟨a1, e1, _, w1⟩ := DataW.trod_int Try.underlying3 h1
    obtain ⟨a2, e2, _, w2⟩ := DataW.trod_int Try.underlying2 h2
    simp only [List.cons.injEq, and_true] at e0 e1 e2
    subst e0; subst e1; subst e2
    exact ⟨⟨a0, a1, a2⟩, rfl, rfl⟩
def rdBody : Rd (List InsR) := Rd.slice rdIns 24
theorem opens_body (n : Nat) : Rd.Opens Try.prog 30 rdBody n := fun H enc W base spare held fuel cs x hf =>
  Rd.opens_slice Try.underlying30 (by kernel_rfl) (by decide) (by kernel_rfl) (opens_ins n) H enc W base spare held fuel cs x (by omega)

structure CStep where
  kind : Int
  fn : Int
  body : List InsR
def rdStep : Rd CStep := ⟨3, fun w s cs => ∃ c, cs = [.int .i64 s.kind, .int .i64 s.fn, c] ∧ (Lit.int .i64 s.kind).wf = true ∧ (Lit.int .i64 s.fn).wf = true ∧ rdBody.K w s.body [c]⟩
theorem opens_step (n : Nat) : Rd.Opens Try.prog 32 rdStep n := fun H enc W base spare held fuel cs x hf h hw => by
  obtain ⟨m, hm, hl, hp⟩ := Rd.open_struct [3, 3, 30] Try.underlying32 (by kernel_rfl) (by kernel_rfl) (by kernel_rfl) h hw
  match cs, hl with
  | [c0, c1, c2], _ =>
    obtain ⟨y0, h0, _⟩ := hp 0 _ c0 rfl rfl
    obtain ⟨y1, h1, _⟩ := hp 1 _ c1 rfl rfl
    obtain ⟨y2, h2, hw2⟩ := hp 2 _ c2 rfl rfl
    obtain ⟨a0, e0, _, w0⟩ := DataW.trod_int Try.underlying3 h0
    obtain ⟨a1, e1, _, w1⟩ := DataW.trod_int Try.underlying3 h1
    obtain ⟨bd, hb, _⟩ := opens_body n H enc W base spare held m [c2] y2 (by omega) h2 hw2
    simp only [List.cons.injEq, and_true] at e0 e1
    subst e0; subst e1
    exact ⟨⟨a0, a1, bd⟩, ⟨c2, rfl, w0, w1, hb⟩, rfl⟩
def rdSteps : Rd (List CStep) := Rd.slice rdStep 40
theorem opens_steps (n : Nat) : Rd.Opens Try.prog 22 rdSteps n := fun H enc W base spare held fuel cs x hf =>
  Rd.opens_slice Try.underlying22 (by kernel_rfl) (by decide) (by kernel_rfl) (opens_step n) H enc W base spare held fuel cs x (by omega)

theorem body_src {w : World} {A : Option Addr} {c : Nat} {l : List InsR} (h : rdIns.C w A l) (hc : l.length ≤ c) (hb : l.length * 24 ≤ 140737488351232) (h0 : 0 < l.length) : Src w (.slice A l.length c) l.length (insCells l) := by
  obtain ⟨b, off, rfl, hx⟩ := h h0
  have hb0 : b < w.heap.size := by
    obtain ⟨cs, _, hcs, e⟩ := hx 0 l[0] (List.getElem?_eq_getElem h0)
    have hcs : cellsAt w b (off + 0 * 3) cs := hcs
    have e : cs = l[0].cells := e
    rw [e] at hcs
    exact World.block_lt_of_cell? w _ (hcs 0 _ rfl)
  refine .inr ⟨b, off, c, rfl, hb0, hc, by unfold maxLen; omega, fun j u hu => ?_⟩
  have hj : j < l.length * 3 := by have := (List.getElem?_eq_some_iff.1 hu).1; rwa [insCells_length] at this
  have hk : j / 3 < l.length := by omega
  obtain ⟨cs, _, hcs, e⟩ := hx (j / 3) l[j / 3] (List.getElem?_eq_getElem hk)
  have hcs : cellsAt w b (off + j / 3 * 3) cs := hcs
  have e : cs = l[j / 3].cells := e
  rw [e] at hcs
  obtain ⟨f1, f2, f3⟩ := insCells_get l (j / 3) hk
  have hm : j % 3 = 0 ∨ j % 3 = 1 ∨ j % 3 = 2 := by omega
  rcases hm with hm | hm | hm
  · have ej : j = j / 3 * 3 := by omega
    rw [ej, f1] at hu
    injection hu with hu
    have := hcs 0 _ rfl
    rw [← hu, show off + j = off + j / 3 * 3 + 0 by omega]
    exact this
  · have ej : j = j / 3 * 3 + 1 := by omega
    rw [ej, f2] at hu
    injection hu with hu
    have := hcs 1 _ rfl
    rw [← hu, show off + j = off + j / 3 * 3 + 1 by omega]
    exact this
  · have ej : j = j / 3 * 3 + 2 := by omega
    rw [ej, f3] at hu
    injection hu with hu
    have := hcs 2 _ rfl
    rw [← hu, show off + j = off + j / 3 * 3 + 2 by omega]
    exact this
/-- an empty slice, or nil -/
theorem body_src0 {w : World} {A : Option Addr} {c : Nat} : True := trivial
end Go.Proofs.Ythmjmggeihonnaa
