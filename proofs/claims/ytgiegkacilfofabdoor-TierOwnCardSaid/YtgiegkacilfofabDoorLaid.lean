/- What the listed variables give: the table of instructions. -/
import Derived.Test.YtgiegkacilfofabDoorSorts
import Derived.Test.YtgiegkacilfofabDoorRows
import Derived.ProofKit
import Derived.LaidMore
import Derived.LaidHandle
import Derived.OpenShut
import Derived.Stop.Joined
namespace Go.Proofs.YtgiegkacilfofabDoor
set_option linter.unusedVariables false
set_option linter.unusedSimpArgs false
open Go.ChangeShapes Go.WideShapes Go.ChangeAt Go.RowKit

def sortD {H : Type} (s : SortR) : DataW H := .agg [.lit (.string s.nm.data.toList), .lit (.int .i64 s.takes), .lit (.int .i64 s.leaves), .lit (.int .i64 s.more), .lit (.int .i64 s.has)]
theorem sorts_datum : (Rows.laid_evenhand_code_sorts : DataW Unit) = .agg (sorts.map sortD) := by rfl
theorem cellsSort : Tryd.prog.cellsOf 105 = 5 := by kernel_rfl
theorem cellsStr : Tryd.prog.cellsOf 9 = 1 := by kernel_rfl
theorem cellsI : Tryd.prog.cellsOf 3 = 1 := by kernel_rfl
theorem cellsL : Tryd.prog.cellsOf 2 = 1 := by kernel_rfl
theorem gSorts : Tryd.prog.globalNamed "evenhand/code.sorts" = some 0 := by kernel_rfl
theorem tSorts : (Tryd.prog.globals[0]?).map (·.type) = some 119 := by kernel_rfl
theorem byte_eq {a b : ByteArray} (h : a.data.toList = b.data.toList) : a = b := by
  obtain ⟨⟨a⟩⟩ := a
  obtain ⟨⟨b⟩⟩ := b
  simp at h
  subst h
  rfl

set_option maxRecDepth 100000 in
/-- a struct of the table, its cells out of its datum -/
theorem sort_cells {H : Type} {enc : TypeId × Value → H} {W : World} {base : Nat} {spare : Nat → Bool} {held : Bool} {fuel : Nat} {cs : List Value} {x : DataW H × List MemPlace} {s : SortR}
    (h : DataW.trod enc Tryd.prog W base spare held fuel 105 cs = some x) (hx : x.1 = sortD s) : cs = s.cells := by
  obtain ⟨xs, n, rfl, rfl, hl, hn, hf⟩ := DataW.trod_struct Tryd.underlying105 h
  rw [cellsSort] at hl
  match xs, hn, cs, hl with
  | [y0, y1, y2, y3, y4], _, [c0, c1, c2, c3, c4], _ =>
    have h0 := hf 0 _ rfl
    have h1 := hf 1 _ rfl
    have h2 := hf 2 _ rfl
    have h3 := hf 3 _ rfl
    have h4 := hf 4 _ rfl
    simp only [cellsStr, cellsI, cellsL, List.drop_zero, List.drop_succ_cons, List.take_succ_cons, List.take_zero, List.getElem?_cons_zero, List.getElem?_cons_succ] at h0 h1 h2 h3 h4
    obtain ⟨s0, e0, d0, _⟩ := DataW.trod_string Tryd.underlying9 h0
    obtain ⟨n1, e1, d1, _⟩ := DataW.trod_int Tryd.underlying3 h1
    obtain ⟨n2, e2, d2, _⟩ := DataW.trod_int Tryd.underlying3 h2
    obtain ⟨n3, e3, d3, _⟩ := DataW.trod_int Tryd.underlying2 h3
    obtain ⟨n4, e4, d4, _⟩ := DataW.trod_int Tryd.underlying3 h4
    subst d0 d1 d2 d3 d4
    simp only [sortD, List.map_cons, List.map_nil, DataW.agg.injEq, List.cons.injEq, DataW.lit.injEq, Lit.string.injEq, Lit.int.injEq, true_and, and_true] at hx
    obtain ⟨x0, x1, x2, x3, x4⟩ := hx
    have z0 : c0 = .string s0 := by injection e0
    have z1 : c1 = .int .i64 n1 := by injection e1
    have z2 : c2 = .int .i64 n2 := by injection e2
    have z3 : c3 = .int .i64 n3 := by injection e3
    have z4 : c4 = .int .i64 n4 := by injection e4
    rw [z0, z1, z2, z3, z4, byte_eq x0, x1, x2, x3, x4]
    rfl

set_option maxRecDepth 100000 in
/-- the whole table -/
theorem sorts_of_trod {W : World} {fuel : Nat} {cs : Array Value} {x : DataW Unit × List MemPlace} {enc : TypeId × Value → Unit} {base : Nat} {spare : Nat → Bool} {held : Bool}
    (h : DataW.trod enc Tryd.prog W base spare held fuel 119 cs.toList = some x) (hx : x.1 = Rows.laid_evenhand_code_sorts) (hv : ∀ off, W.cell? ⟨0, off, none⟩ = cs[off]?) : SortsIs W := by
  obtain ⟨xs, m, rfl, hd, hl, hn, hel⟩ := DataW.trod_array Tryd.underlying119 h
  subst hd
  rw [sorts_datum] at hx
  simp only [DataW.agg.injEq] at hx
  intro i s hs j u hu
  have hi : i < 26 := (List.getElem?_eq_some_iff.1 hs).1
  have hi2 : i < xs.length := by omega
  have h1 := hel i hi
  rw [cellsSort, List.getElem?_eq_getElem hi2] at h1
  have h2 : (xs[i]).1 = sortD s := by
    have e := congrArg (fun l => l[i]?) hx
    simp only [List.getElem?_map, hs, List.getElem?_eq_getElem hi2, Option.map_some] at e
    injection e
  have h3 := sort_cells h1 h2
  have hj : j < 5 := (List.getElem?_eq_some_iff.1 hu).1
  rw [← h3, List.getElem?_take_of_lt hj, List.getElem?_drop, Array.getElem?_toList] at hu
  rw [hv]
  exact hu

/-- the row's laid list -/
def laidL : List (String × DataW Unit) := [("math/bits.deBruijn32tab", Rows.laid_math_bits_deBruijn32tab), ("math/bits.deBruijn64tab", Rows.laid_math_bits_deBruijn64tab), ("internal/strconv.uint64pow10", Rows.laid_internal_strconv_uint64pow10), ("evenhand/code.sorts", Rows.laid_evenhand_code_sorts)]

/-- the door's own heap meets the condition -/
theorem door_met (os : Os) (args : Array Value) : laidMetH Tryd.prog laidL ((World.doorLaid Tryd.prog 55 os).forCall (fun _ _ => 0) ⟨#[], args, []⟩).memory :=
  laidMetH_of_parts3 (fuel := 8) (laidMet_of_run' 8 (by kernel_rfl) (by kernel_rfl)) (by kernel_rfl) (by kernel_rfl)

/-- what the condition gives the walks -/
theorem of_laid {W : World} (h : laidMetH Tryd.prog laidL W) : SortsIs W := by
  rw [MakeChecks.laidMetH_plain _ _ _ (by kernel_rfl)] at h
  obtain ⟨ps, ⟨_, _, _, _, _, _, _, _, _, _, ⟨_, _, _, _, _, _, _, _, _, _, ⟨_, _, _, _, _, _, _, _, _, _, ⟨g3, t3, cs3, f3, p3, q3, hg3, ht3, hv3, hd3, _, _⟩, _⟩, _⟩, _⟩, _, _⟩ := h
  obtain rfl := Option.some.inj (gSorts.symm.trans hg3)
  obtain rfl := Option.some.inj (tSorts.symm.trans ht3)
  exact sorts_of_trod hd3 rfl (fun off => World.var?_cell gSorts hv3 off)
end Go.Proofs.YtgiegkacilfofabDoor
