/- How code and inputs that are handed in read. -/
import Derived.Test.YtahmnmpfjgddpaaGreatDoorIntO
import Derived.Test.YtahmnmpfjgddpaaGreatDoorRowBase
import Derived.Test.YtahmnmpfjgddpaaGreatDoorRowCap
import Derived.Deep.Slices
namespace Go.Proofs.YtahmnmpfjgddpaaGreatDoor
set_option linter.unusedVariables false
set_option linter.unusedSimpArgs false
open Go.ChangeShapes Go.WideShapes Go.ChangeAt Go.RowKit

def rdI64s : Rd (List Int) := Rd.slice (Rd.int .i64) 8
theorem opens_i64s (n : Nat) : Rd.Opens Tryz.prog 25 rdI64s n := fun H enc W base spare held fuel cs x hf =>
  Rd.opens_slice Tryz.underlying25 (by kernel_rfl) (by decide) (by kernel_rfl) (Rd.opens_int Tryz.underlying2 n) H enc W base spare held fuel cs x (by omega)
theorem cap_of_trod {H : Type} {enc : TypeId × Value → H} {W : World} {base : Nat} {spare : Nat → Bool} {held : Bool} {fuel : Nat} {t e : TypeId} {A : Option Addr} {n c : Nat} {x : DataW H × List MemPlace} (hu : Tryz.prog.underlying t = some (.slice e)) (h : DataW.trod enc Tryz.prog W base spare held fuel t [.slice A n c] = some x) : n ≤ c ∧ c ≤ maxLen := by
  rcases Go.Deep.open_slice hu h with ⟨hcs, _⟩ | ⟨a', len', cap', m, n', D, Pl, hcs, _, hl, hm, _⟩
  · simp only [List.cons.injEq, Value.slice.injEq, and_true] at hcs
    obtain ⟨rfl, rfl, rfl⟩ := hcs
    exact ⟨Nat.le_refl _, Nat.zero_le _⟩
  · simp only [List.cons.injEq, Value.slice.injEq, and_true] at hcs
    obtain ⟨rfl, rfl, rfl⟩ := hcs
    exact ⟨hl, hm⟩
theorem in64_wf {x : Int} (h : (Lit.int .i64 x).wf = true) : In64 x := in64_of h
theorem numSrc_of {w : World} {A : Option Addr} {c : Nat} {l : List Int} (h : (Rd.int .i64).C w A l) (hl : l.length ≤ c) (hc : c ≤ maxLen) : NumSrc w (.slice A l.length c) l ∧ ∀ x ∈ l, In64 x := by
  refine ⟨⟨A, c, rfl, hl, hc, fun h0 => ?_⟩, fun x hx => ?_⟩
  · obtain ⟨b, off, e, hx⟩ := h h0
    refine ⟨b, off, e, fun j x hj => ?_⟩
    obtain ⟨cs, _, hcs, hK⟩ := hx j x hj
    have hK : cs = [.int .i64 x] ∧ (Lit.int .i64 x).wf = true := hK
    rw [hK.1] at hcs
    have := hcs 0 _ rfl
    have e : off + j * (Rd.int .i64).sz + 0 = off + j := by show off + j * 1 + 0 = off + j; omega
    rwa [e] at this
  · obtain ⟨j, hj, rfl⟩ := List.getElem_of_mem hx
    obtain ⟨b, off, e, hx⟩ := h (by omega)
    obtain ⟨cs, _, hcs, hK⟩ := hx j _ (List.getElem?_eq_getElem hj)
    exact in64_wf hK.2
theorem opens_nums {H : Type} {enc : TypeId × Value → H} {W : World} {base : Nat} {spare : Nat → Bool} {held : Bool} {fuel : Nat} {c : Value} {x : DataW H × List MemPlace}
    (h : DataW.trod enc Tryz.prog W base spare held fuel 25 [c] = some x) (hw : ∀ m ∈ x.1.weights Tryz.prog 25, m ≤ reachBytes) : ∃ l, NumSrc W c l ∧ (∀ y ∈ l, In64 y) ∧ l.length * 8 ≤ 140737488351232 := by
  obtain ⟨l, ⟨A, cc, e, h1, h2, h3⟩, _⟩ := opens_i64s fuel H enc W base spare held fuel [c] x (Nat.le_refl _) h hw
  simp only [List.cons.injEq, and_true] at e
  subst e
  have hc := cap_of_trod Tryz.underlying25 h
  have hn := numSrc_of h3 h1 hc.2
  exact ⟨l, hn.1, hn.2, h2⟩

def InputsAt (w : World) (x : List Int × List Int) (cs : List Value) : Prop := ∃ V0 V1, cs = [V0, V1] ∧ NumSrc w V0 x.1 ∧ NumSrc w V1 x.2 ∧ (∀ y ∈ x.1, In64 y) ∧ (∀ y ∈ x.2, In64 y) ∧ x.1.length * 8 ≤ 140737488351232 ∧ x.2.length * 8 ≤ 140737488351232
def rdInputs : Rd (List Int × List Int) := ⟨2, InputsAt⟩
theorem opens_inputs (n : Nat) : Rd.Opens Tryz.prog 27 rdInputs n := fun H enc W base spare held fuel cs x hf h hw => by
  obtain ⟨m, hm, hl, hp⟩ := Rd.open_struct [25, 25] Tryz.underlying27 (by kernel_rfl) (by kernel_rfl) (by kernel_rfl) h hw
  match cs, hl with
  | [c0, c1], _ =>
    obtain ⟨y0, h0, hw0⟩ := hp 0 _ c0 rfl rfl
    obtain ⟨y1, h1, hw1⟩ := hp 1 _ c1 rfl rfl
    obtain ⟨l0, a0, b0, z0⟩ := opens_nums h0 hw0
    obtain ⟨l1, a1, b1, z1⟩ := opens_nums h1 hw1
    exact ⟨(l0, l1), ⟨c0, c1, rfl, a0, a1, b0, b1, z0, z1⟩, rfl⟩

def rdFns : Rd (List FnR) := Rd.slice rdFn 64
theorem opens_fns (n : Nat) : Rd.Opens Tryz.prog 22 rdFns n := fun H enc W base spare held fuel cs x hf =>
  Rd.opens_slice Tryz.underlying22 (by kernel_rfl) (by decide) (by kernel_rfl) (opens_fn n) H enc W base spare held fuel cs x (by omega)
theorem fnsIs_of {w : World} {A : Option Addr} {c : Nat} {fs : List FnR} (h : rdFn.C w A fs) (hl : fs.length ≤ c) (hc : c ≤ maxLen) : FnsIs w (.slice A fs.length c) fs ∧ ∀ f ∈ fs, ∀ x ∈ f.l, Full x := by
  have hfull : ∀ f ∈ fs, ∀ x ∈ f.l, Full x := fun f hf x hx => by
    obtain ⟨j, hj, rfl⟩ := List.getElem_of_mem hf
    obtain ⟨b, off, e, hcell⟩ := h (by omega)
    obtain ⟨cs, _, hcs, hK⟩ := hcell j _ (List.getElem?_eq_getElem hj)
    have hK : FnAt w fs[j] cs := hK
    obtain ⟨_, _, _, hB⟩ := hK.is
    exact hB.full x hx
  refine ⟨?_, hfull⟩
  by_cases h0 : 0 < fs.length
  · obtain ⟨b, off, rfl, hcell⟩ := h h0
    have hget : ∀ (j : Nat) f, fs[j]? = some f → ∃ A c, (w.cell? ⟨b, off + j * 5, none⟩ = some (.string f.nm) ∧ w.cell? ⟨b, off + j * 5 + 1, none⟩ = some (.int .i64 f.ps) ∧ w.cell? ⟨b, off + j * 5 + 2, none⟩ = some (.int .i64 f.vs) ∧ w.cell? ⟨b, off + j * 5 + 3, none⟩ = some (.int .i64 f.ar) ∧ w.cell? ⟨b, off + j * 5 + 4, none⟩ = some (.slice A f.l.length c)) ∧ Src w (.slice A f.l.length c) f.l.length (insCells f.l) := fun j f hf => by
      obtain ⟨cs, _, hcs, hK⟩ := hcell j f hf
      have hK : FnAt w f cs := hK
      obtain ⟨A2, c2, rfl, hB⟩ := hK.is
      have hcs : cellsAt w b (off + j * 5) [.string f.nm, .int .i64 f.ps, .int .i64 f.vs, .int .i64 f.ar, .slice A2 f.l.length c2] := hcs
      exact ⟨A2, c2, ⟨hcs 0 _ rfl, hcs 1 _ rfl, hcs 2 _ rfl, hcs 3 _ rfl, hcs 4 _ rfl⟩, hB.src⟩
    obtain ⟨_, _, ⟨g0, _⟩, _⟩ := hget 0 fs[0] (List.getElem?_eq_getElem h0)
    exact .inr ⟨b, off, c, rfl, World.block_lt_of_cell? w _ g0, hl, hc, hget⟩
  · have : fs = [] := List.eq_nil_of_length_eq_zero (by omega)
    subst this
    exact .inl ⟨rfl, A, c, rfl⟩
def CodeAt (w : World) (fs : List FnR) (cs : List Value) : Prop := ∃ A c, cs = [.slice A fs.length c] ∧ FnsIs w (.slice A fs.length c) fs ∧ ∀ f ∈ fs, ∀ x ∈ f.l, Full x
def rdCode : Rd (List FnR) := ⟨1, CodeAt⟩
theorem opens_code (n : Nat) : Rd.Opens Tryz.prog 24 rdCode n := fun H enc W base spare held fuel cs x hf h hw => by
  obtain ⟨m, hm, hl, hp⟩ := Rd.open_struct [22] Tryz.underlying24 (by kernel_rfl) (by kernel_rfl) (by kernel_rfl) h hw
  match cs, hl with
  | [c0], _ =>
    obtain ⟨y0, h0, hw0⟩ := hp 0 _ c0 rfl rfl
    obtain ⟨fs, ⟨A, c, e, h1, h2, h3⟩, _⟩ := opens_fns m H enc W base spare held m [c0] y0 (Nat.le_refl _) h0 hw0
    simp only [List.cons.injEq, and_true] at e
    subst e
    have hc := cap_of_trod Tryz.underlying22 h0
    obtain ⟨k1, k2⟩ := fnsIs_of h3 h1 hc.2
    exact ⟨fs, ⟨A, c, rfl, k1, k2⟩, rfl⟩
end Go.Proofs.YtahmnmpfjgddpaaGreatDoor
