/- tier: how rows of numbers that are handed in read. (Out of XTRd, for the seat without calls.) -/
import Derived.Test.YtgiegkacilfofabDoorTierS
namespace Go.Proofs.YtgiegkacilfofabDoor
set_option linter.unusedVariables false
set_option linter.unusedSimpArgs false
open Go.ChangeShapes Go.WideShapes Go.ChangeAt Go.RowKit

theorem in64_wf' {x : Int} (h : (Lit.int .i64 x).wf = true) : In64 x := in64_of h
def rdI64r : Rd (List Int) := Rd.slice (Rd.int .i64) 8
theorem opens_i64r (n : Nat) : Rd.Opens Tryd.prog 22 rdI64r n := fun H enc W base spare held fuel cs x hf =>
  Rd.opens_slice Tryd.underlying22 (by kernel_rfl) (by decide) (by kernel_rfl) (Rd.opens_int Tryd.underlying2 n) H enc W base spare held fuel cs x (by omega)
theorem numSrc_of' {w : World} {A : Option Addr} {c : Nat} {l : List Int} (h : (Rd.int .i64).C w A l) (hl : l.length ≤ c) (hc : c ≤ maxLen) : NumSrc w (.slice A l.length c) l ∧ ∀ x ∈ l, In64 x := by
  refine ⟨⟨A, c, rfl, hl, hc, fun h0 => ?_⟩, fun x hx => ?_⟩
  · obtain ⟨b, off, e, hx⟩ := h h0
    refine ⟨b, off, e, fun j x hj => ?_⟩
    obtain ⟨cs, _, hcs, hK⟩ := hx j x hj
    have hK : cs = [.int .i64 x] ∧ (Lit.int .i64 x).wf = true := hK
    rw [hK.1] at hcs
    have := hcs 0 _ rfl
    have e : off + j * (Rd.int .i64).sz + 0 = off + j := by show off + j * 1 + 0 = off + j; omega
    rwa [e] at this
  · obtain ⟨j, hj, rfl⟩ := List.getElem_of_mem hx
    obtain ⟨b, off, e, hx⟩ := h (by omega)
    obtain ⟨cs, _, hcs, hK⟩ := hx j _ (List.getElem?_eq_getElem hj)
    exact in64_wf' hK.2
/-- a row of numbers that is handed in -/
def NumsAt (w : World) (A : Option Addr) (c : Nat) (l : List Int) : Prop := NumSrc w (.slice A l.length c) l ∧ (∀ x ∈ l, In64 x) ∧ l.length * 8 ≤ 140737488351232
def rdNums : Rd (List Int) := ⟨1, fun w l cs => ∃ A c, cs = [.slice A l.length c] ∧ NumsAt w A c l⟩
theorem opens_numsR (n : Nat) : Rd.Opens Tryd.prog 22 rdNums n := fun H enc W base spare held fuel cs x hf h hw => by
  obtain ⟨l, ⟨A, c, rfl, h1, h2, h3⟩, hh⟩ := opens_i64r n H enc W base spare held fuel cs x (by omega) h hw
  have hc := cap_of_trod Tryd.underlying22 h
  have hn := numSrc_of' h3 h1 hc.2
  exact ⟨l, ⟨A, c, rfl, hn.1, hn.2, h2⟩, rfl⟩
theorem nums_of {w : World} {l : List Int} {v : Value} (h : rdNums.K w l [v]) : ∃ A c, v = .slice A l.length c ∧ NumsAt w A c l := by
  obtain ⟨A, c, e, h⟩ := h
  exact ⟨A, c, by simpa using e, h⟩

theorem NumsAt.keep {w w' : World} {A : Option Addr} {c : Nat} {l : List Int} (h : NumsAt w A c l) (hb : Below w.heap.size w w') : NumsAt w' A c l := ⟨h.1.keep hb, h.2⟩
end Go.Proofs.YtgiegkacilfofabDoor
