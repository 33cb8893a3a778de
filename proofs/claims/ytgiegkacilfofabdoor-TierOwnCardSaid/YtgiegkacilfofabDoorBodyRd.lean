/- the reader of rows of instructions. -/
import Derived.Test.YtgiegkacilfofabDoorKeep
import Derived.Test.YtgiegkacilfofabDoorRd
namespace Go.Proofs.YtgiegkacilfofabDoor
set_option linter.unusedVariables false
set_option linter.unusedSimpArgs false
open Go.ChangeShapes Go.WideShapes Go.ChangeAt Go.RowKit

def rdIns : Rd InsR := ⟨3, fun _ x cs => cs = x.cells ∧ Full x⟩
theorem opens_ins (n : Nat) : Rd.Opens Tryd.prog 44 rdIns n := fun H enc W base spare held fuel cs x hf h hw => by
  obtain ⟨m, _, hl, hp⟩ := Rd.open_struct [3, 3, 2] Tryd.underlying44 (by kernel_rfl) (by kernel_rfl) (by kernel_rfl) h hw
  match cs, hl with
  | [c0, c1, c2], _ =>
    obtain ⟨y0, h0, _⟩ := hp 0 _ c0 rfl rfl
    obtain ⟨y1, h1, _⟩ := hp 1 _ c1 rfl rfl
    obtain ⟨y2, h2, _⟩ := hp 2 _ c2 rfl rfl
    obtain ⟨a0, e0, _, w0⟩ := DataW.trod_int Tryd.underlying3 h0
    obtain ⟨a1, e1, _, w1⟩ := DataW.trod_int Tryd.underlying3 h1
    obtain ⟨a2, e2, _, w2⟩ := DataW.trod_int Tryd.underlying2 h2
    simp only [List.cons.injEq, and_true] at e0 e1 e2
    subst e0; subst e1; subst e2
    exact ⟨⟨a0, a1, a2⟩, ⟨rfl, ⟨in64_of w0, in64_of w1, in64_of w2⟩⟩, rfl⟩
def rdBody : Rd (List InsR) := Rd.slice rdIns 24
theorem opens_body (n : Nat) : Rd.Opens Tryd.prog 32 rdBody n := fun H enc W base spare held fuel cs x hf =>
  Rd.opens_slice Tryd.underlying32 (by kernel_rfl) (by decide) (by kernel_rfl) (opens_ins n) H enc W base spare held fuel cs x (by omega)

/-- a row of instructions that is handed in -/
structure BodyAt (w : World) (A : Option Addr) (c : Nat) (l : List InsR) : Prop where
  src : Src w (.slice A l.length c) l.length (insCells l)
  full : ∀ x ∈ l, Full x
  fits : l.length ≤ c
  bytes : l.length * 24 ≤ 140737488351232

theorem src_of {w : World} {A : Option Addr} {c : Nat} {l : List InsR} (h : rdIns.C w A l) (hc : l.length ≤ c) (hb : l.length * 24 ≤ 140737488351232) : Src w (.slice A l.length c) l.length (insCells l) := by
  by_cases h0 : 0 < l.length
  · obtain ⟨b, off, rfl, hx⟩ := h h0
    have hb0 : b < w.heap.size := by
      obtain ⟨cs, _, hcs, e⟩ := hx 0 l[0] (List.getElem?_eq_getElem h0)
      have hcs : cellsAt w b (off + 0 * 3) cs := hcs
      have e : cs = l[0].cells := e.1
      rw [e] at hcs
      exact World.block_lt_of_cell? w _ (hcs 0 _ rfl)
    refine .inr ⟨b, off, c, rfl, hb0, hc, by unfold maxLen; omega, fun j u hu => ?_⟩
    have hj : j < l.length * 3 := by have := (List.getElem?_eq_some_iff.1 hu).1; rwa [insCells_length] at this
    have hk : j / 3 < l.length := by omega
    obtain ⟨cs, _, hcs, e⟩ := hx (j / 3) l[j / 3] (List.getElem?_eq_getElem hk)
    have hcs : cellsAt w b (off + j / 3 * 3) cs := hcs
    have e : cs = l[j / 3].cells := e.1
    rw [e] at hcs
    obtain ⟨c0, c1, c2⟩ := insCells_get l (j / 3) hk
    have hm : j = j / 3 * 3 ∨ j = j / 3 * 3 + 1 ∨ j = j / 3 * 3 + 2 := by omega
    rcases hm with hm | hm | hm
    · rw [hm, c0] at hu
      have := hcs 0 u hu
      rw [show off + j = off + j / 3 * 3 + 0 by omega]; exact this
    · rw [hm, c1] at hu
      have := hcs 1 u hu
      rw [show off + j = off + j / 3 * 3 + 1 by omega]; exact this
    · rw [hm, c2] at hu
      have := hcs 2 u hu
      rw [show off + j = off + j / 3 * 3 + 2 by omega]; exact this
  · have h1 : l.length = 0 := by omega
    have h2 := List.length_eq_zero_iff.1 h1
    subst h2
    exact .inl ⟨⟨A, c, rfl⟩, rfl, rfl⟩
theorem body_of {w : World} {l : List InsR} {v : Value} (h : rdBody.K w l [v]) : ∃ A c, v = .slice A l.length c ∧ BodyAt w A c l := by
  obtain ⟨A, c, e, h1, h2, h3⟩ := h
  simp only [List.cons.injEq, and_true] at e
  refine ⟨A, c, e, ⟨src_of h3 h1 h2, fun x hx => ?_, h1, h2⟩⟩
  obtain ⟨i, hi, rfl⟩ := List.getElem_of_mem hx
  obtain ⟨b, off, rfl, hx⟩ := h3 (by omega)
  obtain ⟨cs, _, _, e⟩ := hx i l[i] (List.getElem?_eq_getElem hi)
  exact e.2
end Go.Proofs.YtgiegkacilfofabDoor
