/- How arguments read: whole numbers, bools, strings, slices of whatever reads, structs of one-cell fields. What came in is told once; it stays so while old memory is as it was. -/
import Derived.Test.YtgiegkacilfofabDoorBase
import Derived.ProofKit
import Derived.OpenShut
import Derived.SizedLaws
import Derived.ChangeSlices
import Derived.ChangeArms
namespace Go.Proofs.YtgiegkacilfofabDoor
set_option linter.unusedVariables false
set_option linter.unusedSimpArgs false
open Go.ChangeShapes Go.WideShapes Go.ChangeAt Go.RowKit

/-- how some cells read as something of α -/
structure Rd (α : Type) where
  sz : Nat
  K : World → α → List Value → Prop

def cellsAt (w : World) (b off : Nat) (cs : List Value) : Prop := ∀ i u, cs[i]? = some u → w.cell? ⟨b, off + i, none⟩ = some u
theorem cellsAt.keep {w w' : World} {b off : Nat} {cs : List Value} (h : cellsAt w b off cs) (hb : Below w.heap.size w w') : cellsAt w' b off cs :=
  fun i u hu => (hb.cell (World.block_lt_of_cell? w _ (h i u hu))).trans (h i u hu)

namespace Rd
variable {α : Type}
def int (k : IntKind) : Rd Int := ⟨1, fun _ n cs => cs = [.int k n] ∧ (Lit.int k n).wf = true⟩
def bool : Rd Bool := ⟨1, fun _ b cs => cs = [.bool b]⟩
def str : Rd ByteArray := ⟨1, fun _ s cs => cs = [.string s] ∧ s.size ≤ 140737488351232⟩
/-- the elements of a slice that came in -/
def C (d : Rd α) (w : World) (A : Option Addr) (xs : List α) : Prop :=
  0 < xs.length → ∃ b off, A = some ⟨b, off, none⟩ ∧ ∀ j x, xs[j]? = some x → ∃ cs, cs.length = d.sz ∧ cellsAt w b (off + j * d.sz) cs ∧ d.K w x cs
def slice (d : Rd α) (bytes : Nat) : Rd (List α) := ⟨1, fun w xs cs => ∃ A c, cs = [.slice A xs.length c] ∧ xs.length ≤ c ∧ xs.length * bytes ≤ 140737488351232 ∧ d.C w A xs⟩

def Keeps (d : Rd α) : Prop := ∀ w w' x cs, d.K w x cs → Below w.heap.size w w' → d.K w' x cs
theorem keeps_int (k : IntKind) : Keeps (int k) := fun _ _ _ _ h _ => h
theorem keeps_bool : Keeps bool := fun _ _ _ _ h _ => h
theorem keeps_str : Keeps str := fun _ _ _ _ h _ => h
theorem C_keep {d : Rd α} (hd : Keeps d) {w w' : World} {A : Option Addr} {xs : List α} (h : d.C w A xs) (hb : Below w.heap.size w w') : d.C w' A xs := fun hl => by
  obtain ⟨b, off, e, hx⟩ := h hl
  refine ⟨b, off, e, fun j x hj => ?_⟩
  obtain ⟨cs, h1, h2, h3⟩ := hx j x hj
  exact ⟨cs, h1, h2.keep hb, hd _ _ _ _ h3 hb⟩
theorem keeps_slice {d : Rd α} (hd : Keeps d) (bytes : Nat) : Keeps (slice d bytes) := fun w w' xs cs h hb => by
  obtain ⟨A, c, e, h1, h2, h3⟩ := h
  exact ⟨A, c, e, h1, h2, C_keep hd h3 hb⟩

/-- whatever reads as data reads so, up to a depth -/
def Opens (P : Program) (T : TypeId) (d : Rd α) (n : Nat) : Prop :=
  ∀ (H : Type) (enc : TypeId × Value → H) (W : World) (base : Nat) (spare : Nat → Bool) (held : Bool) (fuel : Nat) (cs : List Value) (x : DataW H × List MemPlace), fuel ≤ n →
    DataW.trod enc P W base spare held fuel T cs = some x → (∀ m ∈ x.1.weights P T, m ≤ reachBytes) → ∃ a, d.K W a cs ∧ cs.length = d.sz

theorem opens_int {P : Program} {T : TypeId} {k : IntKind} (hT : P.underlying T = some (.int k)) (n : Nat) : Opens P T (int k) n := fun H enc W base spare held fuel cs x _ h _ => by
  obtain ⟨m, rfl, _, hw⟩ := DataW.trod_int hT h
  exact ⟨m, ⟨rfl, hw⟩, rfl⟩
theorem opens_bool {P : Program} {T : TypeId} (hT : P.underlying T = some .bool) (n : Nat) : Opens P T bool n := fun H enc W base spare held fuel cs x _ h _ => by
  obtain ⟨b, rfl, _⟩ := DataW.trod_bool hT h
  exact ⟨b, rfl, rfl⟩
theorem opens_str {P : Program} {T : TypeId} (hT : P.underlying T = some .string) (n : Nat) : Opens P T str n := fun H enc W base spare held fuel cs x _ h hw => by
  obtain ⟨s, rfl, rfl, _⟩ := DataW.trod_string hT h
  have := hw s.data.toList.length (by simp [DataW.weights])
  refine ⟨s, ⟨rfl, ?_⟩, rfl⟩
  have h3 : reachBytes = 140737488351232 := by decide
  have h4 : s.data.toList.length = s.size := rfl
  omega

theorem list_of_all {β : Type} {p : Nat → β → Prop} : ∀ (n : Nat), (∀ i, i < n → ∃ a, p i a) → ∃ xs : List β, xs.length = n ∧ ∀ i x, xs[i]? = some x → p i x
  | 0, _ => ⟨[], rfl, fun i x hx => by simp at hx⟩
  | n + 1, h => by
    obtain ⟨xs, h1, h2⟩ := list_of_all n (fun i hi => h i (by omega))
    obtain ⟨y, hy⟩ := h n (by omega)
    refine ⟨xs ++ [y], by simp [h1], fun i x hx => ?_⟩
    rcases Nat.lt_or_ge i n with hi | hi
    · rw [List.getElem?_append_left (by omega)] at hx
      exact h2 i x hx
    · have hlt := (List.getElem?_eq_some_iff.1 hx).1
      simp at hlt
      have : i = n := by omega
      subst this
      rw [List.getElem?_append_right (by omega), h1, Nat.sub_self] at hx
      simp at hx
      subst hx
      exact hy

theorem mapM_cells {w : World} {a : Addr} : ∀ {n : Nat} {cs : List Value}, ((List.range n).mapM fun i => w.cell? (a.add i)) = some cs → cs.length = n ∧ ∀ i u, cs[i]? = some u → w.cell? (a.add i) = some u := by
  intro n cs h
  refine ⟨by simpa using mapM_some_length h, fun i u hu => ?_⟩
  have hi : i < n := by
    have h1 : cs.length = n := by simpa using mapM_some_length h
    have := (List.getElem?_eq_some_iff.1 hu).1
    omega
  have := mapM_some_get h i i (by simp [hi])
  rw [this]; exact hu

theorem addr_spot {w : World} {x : Addr} {v : Value} (h : w.cell? x = some v) : x.spot = none := by
  cases hs : x.spot with
  | none => rfl
  | some _ =>
    unfold World.cell? at h
    split at h
    · simp [hs] at h
    · cases h

theorem cells_at {w : World} {base : Nat} {a : Addr} {n : Nat} {cs : List Value} (h : w.cells? base a n = some cs) : cs.length = n ∧ (0 < n → a.spot = none) ∧ (a.spot = none → cellsAt w a.block a.off cs) := by
  unfold World.cells? at h
  split at h
  · obtain ⟨h1, h2⟩ := mapM_cells h
    refine ⟨h1, fun hn => ?_, fun hs i u hu => ?_⟩
    · obtain ⟨u, hu⟩ : ∃ u, cs[0]? = some u := ⟨cs[0]'(by omega), by simp [h1, hn]⟩
      have := addr_spot (h2 0 u hu)
      simpa [Addr.add] using this
    · have := h2 i u hu
      obtain ⟨b, o, s⟩ := a
      simp only at hs
      subst hs
      have e : (⟨b, o, none⟩ : Addr).add i = ⟨b, o + i, none⟩ := by unfold Addr.add; split <;> simp_all
      rwa [e] at this
  · cases h

theorem weightsAll_mem {H : Type} {P : Program} {e : TypeId} : ∀ {l : List (DataW H)} {d : DataW H}, d ∈ l → ∀ m ∈ d.weights P e, m ∈ DataW.weightsAll P e l
  | x :: l, d, hd, m, hm => by
    simp only [DataW.weightsAll, List.mem_append]
    rcases List.mem_cons.1 hd with rfl | hd
    · exact .inl hm
    · exact .inr (weightsAll_mem hd m hm)

theorem opens_slice {P : Program} {T e : TypeId} {d : Rd α} {n : Nat} {bytes : Nat} (hT : P.underlying T = some (.slice e)) (hsz : P.cellsOf e = d.sz) (h0 : 0 < d.sz) (hb : P.bytesOf e = bytes) (hd : Opens P e d n) : Opens P T (slice d bytes) (n + 1) := fun H enc W base spare held fuel cs x hf h hw => by
  rcases DataW.trod_slice hT h with ⟨rfl, rfl⟩ | ⟨a, len, cap, elems, rest, m, hfm, rfl, rfl, _, hl, hm, hlen, hel, _, _⟩
  · exact ⟨[], ⟨none, 0, rfl, Nat.le_refl _, by simp, fun h => absurd h (by simp)⟩, rfl⟩
  have hel2 : ∀ i, i < len → ∃ a', ∃ cs, W.cells? base (a.add (i * P.cellsOf e)) (P.cellsOf e) = some cs ∧ d.K W a' cs ∧ cs.length = d.sz := by
    intro i hi
    have := hel i hi
    rw [List.getElem?_eq_getElem (by omega)] at this
    obtain ⟨cs, h1, h2⟩ := Option.bind_eq_some_iff.1 this
    obtain ⟨a', h3, h4⟩ := hd H enc W base spare held m cs _ (by omega) h2 (fun q hq => hw q (by
      simp only [DataW.weights, hT, List.mem_cons, List.mem_append]
      refine .inr (.inl (weightsAll_mem (d := elems[i].1) ?_ q hq))
      exact List.mem_map.2 ⟨elems[i], List.getElem_mem _, rfl⟩))
    exact ⟨a', cs, h1, h3, h4⟩
  obtain ⟨xs, hxl, hxs⟩ := list_of_all len hel2
  subst hxl
  refine ⟨xs, ⟨some a, cap, rfl, hl, ?_, fun hp => ?_⟩, rfl⟩
  · have := hw ((elems.length + rest.length) * bytes) (by simp [DataW.weights, hT, hb])
    have h2 : xs.length * bytes ≤ (elems.length + rest.length) * bytes := Nat.mul_le_mul_right _ (by omega)
    have h3 : reachBytes = 140737488351232 := by decide
    omega
  · obtain ⟨cs0, g1, _, _⟩ := hxs 0 xs[0] (by simp [hp])
    have hs0 := (cells_at g1).2.1 (by omega)
    obtain ⟨b, o, s⟩ := a
    have hs : s = none := by simpa [Addr.add] using hs0
    subst hs
    refine ⟨b, o, rfl, fun j x hj => ?_⟩
    obtain ⟨cs, g1, g2, g3⟩ := hxs j x hj
    have e1 : (⟨b, o, none⟩ : Addr).add (j * P.cellsOf e) = ⟨b, o + j * P.cellsOf e, none⟩ := by unfold Addr.add; split <;> simp_all
    rw [e1] at g1
    have := (cells_at g1).2.2 rfl
    rw [hsz] at this
    exact ⟨cs, g3, this, g2⟩

/-- the data of a struct all of whose fields have one cell -/
theorem open_struct {H : Type} {enc : TypeId × Value → H} {P : Program} {W : World} {base : Nat} {spare : Nat → Bool} {held : Bool} {fuel : Nat} {cs : List Value} {x : DataW H × List MemPlace} {T : TypeId} {fs : Array Field} (ts : List TypeId)
    (hT : P.underlying T = some (.struct fs)) (hts : fs.toList.map (fun f => (f.type, f.offset)) = ts.zipIdx) (hone : ts.all (fun t => P.cellsOf t == 1) = true) (hC : P.cellsOf T = ts.length)
    (h : DataW.trod enc P W base spare held fuel T cs = some x) (hw : ∀ m ∈ x.1.weights P T, m ≤ reachBytes) :
    ∃ n, fuel = n + 1 ∧ cs.length = ts.length ∧ ∀ (i : Nat) (t : TypeId) (c : Value), ts[i]? = some t → cs[i]? = some c → ∃ y, DataW.trod enc P W base spare held n t [c] = some y ∧ ∀ m ∈ y.1.weights P t, m ≤ reachBytes := by
  obtain ⟨xs, n, hf, rfl, hl, hlen, hfs⟩ := DataW.trod_struct hT h
  refine ⟨n, hf, hl.trans hC, fun i t c ht hcc => ?_⟩
  have hi := (List.getElem?_eq_some_iff.1 ht).1
  have hfl : fs.size = ts.length := by
    have := congrArg List.length hts
    simpa using this
  have hif : i < fs.size := by omega
  have hfi : fs[i]? = some fs[i] := by simp [hif]
  have hto : fs[i].type = t ∧ fs[i].offset = i := by
    have := congrArg (fun l => l[i]?) hts
    simp only [List.getElem?_map, List.getElem?_zipIdx, ht] at this
    rw [Array.getElem?_toList, hfi] at this
    simp at this
    exact this
  have h1 := hfs i fs[i] hfi
  have hct : P.cellsOf t = 1 := by
    have := List.all_eq_true.1 hone t (List.mem_of_getElem? ht)
    simpa using this
  rw [hto.1, hto.2, hct, List.getElem?_eq_getElem (by omega)] at h1
  have hic : i < cs.length := by omega
  have hd : (cs.drop i).take 1 = [cs[i]] := by
    rw [List.drop_eq_getElem_cons hic]
    rfl
  rw [hd] at h1
  obtain rfl : cs[i] = c := by simpa [hic] using hcc
  refine ⟨xs[i], h1, fun m hm => hw m ?_⟩
  simp only [DataW.weights, hT]
  refine DataW.weights_mem_each (j := i) (t := t) (d := xs[i].1) ?_ ?_ m hm
  · rw [List.getElem?_map, Array.getElem?_toList, hfi, Option.map_some, hto.1]
  · rw [List.getElem?_map, List.getElem?_eq_getElem (by omega)]
    rfl

/-- an argument -/
theorem of_trod {H : Type} {enc : TypeId × Value → H} {P : Program} {W : World} {base : Nat} {spare : Nat → Bool} {held : Bool} {T : TypeId} {d : Rd α} (hd : ∀ n, Opens P T d n) {v : Value} {x : DataW H} {ps : List MemPlace} {ts : List TypeId} {ds : List (DataW H)} {j : Nat}
    (hsz : (DataW.weightsEach P ts ds).all (· ≤ reachBytes) = true) (ht : ts[j]? = some T) (hx : ds[j]? = some x) (h : DataW.Trod enc P W base spare held T v x ps) : ∃ a, d.K W a v.cells.toList := by
  obtain ⟨fuel, hf⟩ := h
  obtain ⟨a, ha, _⟩ := hd fuel H enc W base spare held fuel _ _ (Nat.le_refl _) hf (fun m hm => by
    have := List.all_eq_true.1 hsz m (DataW.weights_mem_each ht hx m hm)
    simpa using this)
  exact ⟨a, ha⟩
end Rd
end Go.Proofs.YtgiegkacilfofabDoor
