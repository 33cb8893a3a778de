/- Rows of functions and of numbers. (Picked out of other texts: gen_tfns.py.) -/
import Derived.Test.YtgiegkacilfofabDoorFn
import Derived.Test.YtgiegkacilfofabDoorFoldRun
import Derived.Test.YtgiegkacilfofabDoorRowBase
import Derived.Test.YtgiegkacilfofabDoorRowCap
import Derived.Test.YtgiegkacilfofabDoorChan
import Derived.Laws.CopyRow
import Derived.Deep.Slices
import Derived.Handy
import Derived.BigQuiet
namespace Go.Proofs.YtgiegkacilfofabDoor
set_option linter.unusedVariables false
set_option linter.unusedSimpArgs false
open Go.ChangeShapes Go.WideShapes Go.ChangeAt Go.RowKit

theorem Chg.setChan {S : Nat → Prop} {a b : World} (h : Chg S a b) {ch : Nat} (hp : S ch) (cap : Nat) (buf : Array Value) (cl : Bool) (s r : Nat) (tm : Bool) : Chg S a (b.setChan ch cap buf cl s r tm) :=
  h.then ⟨rfl, rfl, rfl, by simp [World.setChan], fun k _ hn => by
    simp only [World.setChan]
    rw [Array.getElem?_setIfInBounds_ne (fun e => hn (by rw [← e]; exact hp))]⟩
/-- the row of functions fs, at V -/
def FnsIs (w : World) (V : Value) (fs : List FnR) : Prop :=
  (fs = [] ∧ ∃ A c, V = .slice A 0 c) ∨ ∃ b off cap, V = .slice (some ⟨b, off, none⟩) fs.length cap ∧ b < w.heap.size ∧ fs.length ≤ cap ∧ cap ≤ maxLen ∧ ∀ (j : Nat) f, fs[j]? = some f →
    ∃ A c, (w.cell? ⟨b, off + j * 5, none⟩ = some (.string f.nm) ∧ w.cell? ⟨b, off + j * 5 + 1, none⟩ = some (.int .i64 f.ps) ∧ w.cell? ⟨b, off + j * 5 + 2, none⟩ = some (.int .i64 f.vs) ∧ w.cell? ⟨b, off + j * 5 + 3, none⟩ = some (.int .i64 f.ar) ∧ w.cell? ⟨b, off + j * 5 + 4, none⟩ = some (.slice A f.l.length c)) ∧ Src w (.slice A f.l.length c) f.l.length (insCells f.l)
theorem FnsIs.keep {w w' : World} {V : Value} {fs : List FnR} (h : FnsIs w V fs) (hb : Below w.heap.size w w') : FnsIs w' V fs := by
  rcases h with h | ⟨b, off, cap, e, h1, h2, h3, h4⟩
  · exact .inl h
  · refine .inr ⟨b, off, cap, e, Nat.lt_of_lt_of_le h1 hb.size, h2, h3, fun j f hf => ?_⟩
    obtain ⟨A, c, ⟨c0, c1, c2, c3, c4⟩, hs⟩ := h4 j f hf
    have hc := Below.chg hb
    exact ⟨A, c, ⟨hc.cell c0 (fun x => x), hc.cell c1 (fun x => x), hc.cell c2 (fun x => x), hc.cell c3 (fun x => x), hc.cell c4 (fun x => x)⟩, hs.keepB hb⟩
theorem FnsIs.bound {w : World} {V : Value} {fs : List FnR} (h : FnsIs w V fs) : fs.length ≤ maxLen ∧ ∃ A c, V = .slice A fs.length c := by
  rcases h with ⟨rfl, A, c, rfl⟩ | ⟨b, off, cap, rfl, _, h2, h3, _⟩
  · exact ⟨by simp [maxLen], A, c, rfl⟩
  · exact ⟨by omega, _, _, rfl⟩
theorem FnsIs.get {w : World} {V : Value} {fs : List FnR} (h : FnsIs w V fs) (j : Nat) (hj : j < fs.length) : ∃ b off cap A c, V = .slice (some ⟨b, off, none⟩) fs.length cap ∧ b < w.heap.size ∧ fs.length ≤ cap ∧
    (w.cell? ⟨b, off + j * 5, none⟩ = some (.string fs[j].nm) ∧ w.cell? ⟨b, off + j * 5 + 1, none⟩ = some (.int .i64 fs[j].ps) ∧ w.cell? ⟨b, off + j * 5 + 2, none⟩ = some (.int .i64 fs[j].vs) ∧ w.cell? ⟨b, off + j * 5 + 3, none⟩ = some (.int .i64 fs[j].ar) ∧ w.cell? ⟨b, off + j * 5 + 4, none⟩ = some (.slice A fs[j].l.length c)) ∧ Src w (.slice A fs[j].l.length c) fs[j].l.length (insCells fs[j].l) := by
  rcases h with ⟨rfl, _⟩ | ⟨b, off, cap, e, h1, h2, h3, h4⟩
  · simp at hj
  · obtain ⟨A, c, hc, hs⟩ := h4 j fs[j] (List.getElem?_eq_getElem hj)
    exact ⟨b, off, cap, A, c, e, h1, h2, hc, hs⟩
def nums (l : List Int) : List Value := l.map (Value.int .i64)
theorem nums_length (l : List Int) : (nums l).length = l.length := by simp [nums]
theorem nums_get (l : List Int) (j : Nat) (h : j < l.length) : (nums l)[j]? = some (.int .i64 l[j]) := by simp [nums, h]
/-- numbers that a slice has (memory that is only read) -/
def NumSrc (w : World) (V : Value) (l : List Int) : Prop :=
  ∃ A c, V = .slice A l.length c ∧ l.length ≤ c ∧ c ≤ maxLen ∧ (0 < l.length → ∃ b off, A = some ⟨b, off, none⟩ ∧ ∀ (j : Nat) x, l[j]? = some x → w.cell? ⟨b, off + j, none⟩ = some (.int .i64 x))
theorem NumSrc.keep {w w' : World} {V : Value} {l : List Int} (h : NumSrc w V l) (hb : Below w.heap.size w w') : NumSrc w' V l := by
  obtain ⟨A, c, e, h1, h2, h3⟩ := h
  refine ⟨A, c, e, h1, h2, fun h0 => ?_⟩
  obtain ⟨b, off, e2, h4⟩ := h3 h0
  exact ⟨b, off, e2, fun j x hx => (Below.chg hb).cell (h4 j x hx) (fun x => x)⟩
theorem NumSrc.keptX {w w' : World} {V : Value} {l : List Int} {T : Nat → Prop} (h : NumSrc w V l) (hc : Chg T w w') (hn : ∀ k, V.ownBlock = some k → ¬ T k) : NumSrc w' V l := by
  obtain ⟨A, c, rfl, h1, h2, h3⟩ := h
  refine ⟨A, c, rfl, h1, h2, fun h0 => ?_⟩
  obtain ⟨b, off, rfl, h4⟩ := h3 h0
  exact ⟨b, off, rfl, fun j x hx => hc.cell (h4 j x hx) (hn b rfl)⟩
theorem mkL (n : Nat) (hn : n ≤ 64) : ∀ W : World, (Instr.makeSlice 22 (.int .i64 (n : Int)) (.int .i64 (n : Int))).run Tryd.prog W = .ok (.slice (some ⟨W.heap.size, 0, none⟩) n n) (W.alloc (.cells (madeCells #[.int .i64 0] n) 2)) := by
  intro W
  exact run_make_row' 22 2 (.int .i64 0) 8 Tryd.underlying22 (by kernel_rfl) rfl .i64 .i64 n (by omega) (by omega) W
theorem sizeL : (Tryd.prog.info? 2).map (·.size) = some 1 := by kernel_rfl
theorem made_size (n : Nat) : (madeCells #[.int .i64 0] n).size = n := by simp [madeCells]
theorem NumSrc.of_row {w : World} {t : TypeId} {V : Value} {l : List Int} (h : w.ownsRow 0 t 1 V l.length (nums l)) : NumSrc w V l := by
  rcases h.2 with ⟨rfl, h0⟩ | ⟨g, cap, cur, rfl, hb, hh, h1, h2, h3, h4⟩
  · exact ⟨none, 0, by rw [h0], by omega, by simp [maxLen], fun h => by omega⟩
  · refine ⟨_, cap, rfl, h1, h2, fun _ => ⟨g, 0, rfl, fun j x hx => ?_⟩⟩
    have hj := (List.getElem?_eq_some_iff.1 hx).1
    rw [Nat.zero_add, cell_of_block hh j]
    have h5 : (nums l)[j]? = some (.int .i64 x) := by simp [nums, hx]
    rw [← h4, List.getElem?_take, if_pos (by omega), Array.getElem?_toList] at h5
    exact h5
theorem drewN_add (w : World) (a b : Nat) : (w.drewN a).drewN b = w.drewN (a + b) := by unfold World.drewN; simp only [Nat.add_assoc]
theorem NumSrc.get {w : World} {A : Option Addr} {n c : Nat} {l : List Int} (h : NumSrc w (.slice A n c) l) : n = l.length ∧ n ≤ c ∧ c ≤ maxLen ∧ ∀ (j : Nat) (hj : j < l.length), ∃ b off, A = some ⟨b, off, none⟩ ∧ w.cell? ⟨b, off + j, none⟩ = some (.int .i64 l[j]) := by
  obtain ⟨A', c', e, h1, h2, h3⟩ := h
  injection e with e1 e2 e3
  subst e1 e2 e3
  refine ⟨rfl, h1, h2, fun j hj => ?_⟩
  obtain ⟨b, off, e, h4⟩ := h3 (by omega)
  exact ⟨b, off, e, h4 j _ (List.getElem?_eq_getElem hj)⟩
theorem NumSrc.shape {w : World} {V : Value} {l : List Int} (h : NumSrc w V l) : ∃ A c, V = .slice A l.length c := by
  obtain ⟨A, c, e, _⟩ := h
  exact ⟨A, c, e⟩
theorem NumSrc.take {w : World} {A : Option Addr} {c : Nat} {l : List Int} (h : NumSrc w (.slice A l.length c) l) (j : Nat) (hj : j ≤ l.length) : NumSrc w (.slice A j c) (l.take j) := by
  obtain ⟨A', c', e, h1, h2, h3⟩ := h
  injection e with e1 e2 e3
  subst e1 e3
  have e : (l.take j).length = j := by rw [List.length_take]; omega
  refine ⟨A, c, by rw [e], by rw [e]; omega, h2, fun h0 => ?_⟩
  rw [e] at h0
  obtain ⟨b, off, rfl, h4⟩ := h3 (by omega)
  refine ⟨b, off, rfl, fun i x hx => h4 i x ?_⟩
  rw [List.getElem?_take] at hx
  split at hx
  · exact hx
  · cases hx
theorem belowN {B : Nat} {a w : World} (h : Below B a w) (n : Nat) : Below B a (w.drewN n) := h.trans ⟨rfl, rfl, rfl, Nat.le_refl _, fun _ _ => rfl⟩
theorem NumSrc.drewN {w : World} {V : Value} {l : List Int} (h : NumSrc w V l) (k : Nat) : NumSrc (w.drewN k) V l := h.keep (belowN (Below.refl _ _) k)
theorem infoFn : (Tryd.prog.info? 39).map (fun i => (i.zero, i.size, i.bytes)) = some (some (.agg #[.string ByteArray.empty, .int .i64 0, .int .i64 0, .int .i64 0, .slice none 0 0]), 5, 64) := by kernel_rfl
/-- the cells of a row of functions -/
def FnCells (w : World) (fs : List FnR) (xs : List Value) : Prop :=
  ∀ (j : Nat) f, fs[j]? = some f → ∃ A c, (xs[j * 5]? = some (.string f.nm) ∧ xs[j * 5 + 1]? = some (.int .i64 f.ps) ∧ xs[j * 5 + 2]? = some (.int .i64 f.vs) ∧ xs[j * 5 + 3]? = some (.int .i64 f.ar) ∧ xs[j * 5 + 4]? = some (.slice A f.l.length c)) ∧ Src w (.slice A f.l.length c) f.l.length (insCells f.l)
theorem FnCells.keep {w w' : World} {fs : List FnR} {xs : List Value} (h : FnCells w fs xs) (hb : Below w.heap.size w w') : FnCells w' fs xs := fun j f hf => by
  obtain ⟨A, c, h1, h2⟩ := h j f hf
  exact ⟨A, c, h1, h2.keepB hb⟩
theorem FnCells.snoc {w : World} {fs : List FnR} {xs : List Value} {f : FnR} {A : Option Addr} {c : Nat} (h : FnCells w fs xs) (hl : xs.length = fs.length * 5) (hs : Src w (.slice A f.l.length c) f.l.length (insCells f.l)) :
    FnCells w (fs ++ [f]) (xs ++ [.string f.nm, .int .i64 f.ps, .int .i64 f.vs, .int .i64 f.ar, .slice A f.l.length c]) := fun j g hg => by
  by_cases hj : j < fs.length
  · rw [List.getElem?_append_left hj] at hg
    obtain ⟨B, d, ⟨h0, h1, h2, h3, h4⟩, h5⟩ := h j g hg
    refine ⟨B, d, ⟨?_, ?_, ?_, ?_, ?_⟩, h5⟩ <;> (rw [List.getElem?_append_left (by omega)]; assumption)
  · rw [List.getElem?_append_right (by omega)] at hg
    obtain ⟨rfl, rfl⟩ : j = fs.length ∧ g = f := by
      have h1 : j - fs.length = 0 := by
        have := (List.getElem?_eq_some_iff.1 hg).1
        simp at this
        omega
      rw [h1] at hg
      injection hg with hg
      exact ⟨by omega, hg.symm⟩
    refine ⟨A, c, ⟨?_, ?_, ?_, ?_, ?_⟩, hs⟩ <;> (rw [List.getElem?_append_right (by omega), hl]; simp [Nat.add_sub_cancel_left])
theorem FnsIs.of_row {w : World} {fs : List FnR} {xs : List Value} {V : Value} (h : w.ownsRow 0 39 5 V fs.length xs) (hx : FnCells w fs xs) : FnsIs w V fs := by
  rcases h.2 with ⟨rfl, h0⟩ | ⟨g, cap, cur, rfl, hb, hh, h1, h2, h3, h4⟩
  · have : fs = [] := List.eq_nil_of_length_eq_zero h0
    subst this
    exact .inl ⟨rfl, none, 0, rfl⟩
  · refine .inr ⟨g, 0, cap, rfl, lt_of_heap hh, h1, h2, fun j f hf => ?_⟩
    have hj : j < fs.length := (List.getElem?_eq_some_iff.1 hf).1
    obtain ⟨A, c, ⟨c0, c1, c2, c3, c4⟩, hs⟩ := hx j f hf
    have hcell : ∀ (i : Nat) u, i < fs.length * 5 → xs[i]? = some u → w.cell? ⟨g, 0 + i, none⟩ = some u := fun i u hi hu => by
      rw [Nat.zero_add, cell_of_block hh]
      rw [← h4, List.getElem?_take, if_pos hi, Array.getElem?_toList] at hu
      exact hu
    refine ⟨A, c, ⟨?_, ?_, ?_, ?_, ?_⟩, hs⟩
    · exact hcell _ _ (by omega) c0
    · have := hcell _ _ (by omega) c1; rwa [Nat.zero_add] at this ⊢
    · have := hcell _ _ (by omega) c2; rwa [Nat.zero_add] at this ⊢
    · have := hcell _ _ (by omega) c3; rwa [Nat.zero_add] at this ⊢
    · have := hcell _ _ (by omega) c4; rwa [Nat.zero_add] at this ⊢
theorem Src.takeI {w : World} {A : Option Addr} {c : Nat} {l : List InsR} (h : Src w (.slice A l.length c) l.length (insCells l)) (m : Nat) (hm : m ≤ l.length) : Src w (.slice A m c) m (insCells (l.take m)) := by
  rcases h with ⟨_, h0, _⟩ | ⟨b, off, cap, e, hb, h1, h2, h3⟩
  · have : m = 0 := by omega
    subst this
    exact .inl ⟨⟨A, c, rfl⟩, rfl, rfl⟩
  · injection e with e1 e2 e3
    subst e1 e3
    refine .inr ⟨b, off, c, rfl, hb, by omega, by omega, fun j u hu => h3 j u ?_⟩
    have : insCells l = insCells (l.take m) ++ insCells (l.drop m) := by rw [← insCells_append, List.take_append_drop]
    rw [this, List.getElem?_append_left (List.getElem?_eq_some_iff.1 hu).1]
    exact hu
theorem Src.cap {w : World} {A : Option Addr} {n c : Nat} {cs : List Value} (h : Src w (.slice A n c) n cs) : n ≤ maxLen ∧ n ≤ c := by
  rcases h with ⟨_, h0, _⟩ | ⟨b, off, cap, e, hb, h1, h2, h3⟩
  · subst h0; exact ⟨Nat.zero_le _, Nat.zero_le _⟩
  · injection e with _ _ e; subst e; exact ⟨h2, h1⟩
def rdI64s : Rd (List Int) := Rd.slice (Rd.int .i64) 8
theorem opens_i64s (n : Nat) : Rd.Opens Tryd.prog 22 rdI64s n := fun H enc W base spare held fuel cs x hf =>
  Rd.opens_slice Tryd.underlying22 (by kernel_rfl) (by decide) (by kernel_rfl) (Rd.opens_int Tryd.underlying2 n) H enc W base spare held fuel cs x (by omega)
theorem cap_of_trod {H : Type} {enc : TypeId × Value → H} {W : World} {base : Nat} {spare : Nat → Bool} {held : Bool} {fuel : Nat} {t e : TypeId} {A : Option Addr} {n c : Nat} {x : DataW H × List MemPlace} (hu : Tryd.prog.underlying t = some (.slice e)) (h : DataW.trod enc Tryd.prog W base spare held fuel t [.slice A n c] = some x) : n ≤ c ∧ c ≤ maxLen := by
  rcases Go.Deep.open_slice hu h with ⟨hcs, _⟩ | ⟨a', len', cap', m, n', D, Pl, hcs, _, hl, hm, _⟩
  · simp only [List.cons.injEq, Value.slice.injEq, and_true] at hcs
    obtain ⟨rfl, rfl, rfl⟩ := hcs
    exact ⟨Nat.le_refl _, Nat.zero_le _⟩
  · simp only [List.cons.injEq, Value.slice.injEq, and_true] at hcs
    obtain ⟨rfl, rfl, rfl⟩ := hcs
    exact ⟨hl, hm⟩
theorem in64_wf {x : Int} (h : (Lit.int .i64 x).wf = true) : In64 x := in64_of h
theorem numSrc_of {w : World} {A : Option Addr} {c : Nat} {l : List Int} (h : (Rd.int .i64).C w A l) (hl : l.length ≤ c) (hc : c ≤ maxLen) : NumSrc w (.slice A l.length c) l ∧ ∀ x ∈ l, In64 x := by
  refine ⟨⟨A, c, rfl, hl, hc, fun h0 => ?_⟩, fun x hx => ?_⟩
  · obtain ⟨b, off, e, hx⟩ := h h0
    refine ⟨b, off, e, fun j x hj => ?_⟩
    obtain ⟨cs, _, hcs, hK⟩ := hx j x hj
    have hK : cs = [.int .i64 x] ∧ (Lit.int .i64 x).wf = true := hK
    rw [hK.1] at hcs
    have := hcs 0 _ rfl
    have e : off + j * (Rd.int .i64).sz + 0 = off + j := by show off + j * 1 + 0 = off + j; omega
    rwa [e] at this
  · obtain ⟨j, hj, rfl⟩ := List.getElem_of_mem hx
    obtain ⟨b, off, e, hx⟩ := h (by omega)
    obtain ⟨cs, _, hcs, hK⟩ := hx j _ (List.getElem?_eq_getElem hj)
    exact in64_wf hK.2
theorem opens_nums {H : Type} {enc : TypeId × Value → H} {W : World} {base : Nat} {spare : Nat → Bool} {held : Bool} {fuel : Nat} {c : Value} {x : DataW H × List MemPlace}
    (h : DataW.trod enc Tryd.prog W base spare held fuel 22 [c] = some x) (hw : ∀ m ∈ x.1.weights Tryd.prog 22, m ≤ reachBytes) : ∃ l, NumSrc W c l ∧ (∀ y ∈ l, In64 y) ∧ l.length * 8 ≤ 140737488351232 := by
  obtain ⟨l, ⟨A, cc, e, h1, h2, h3⟩, _⟩ := opens_i64s fuel H enc W base spare held fuel [c] x (Nat.le_refl _) h hw
  simp only [List.cons.injEq, and_true] at e
  subst e
  have hc := cap_of_trod Tryd.underlying22 h
  have hn := numSrc_of h3 h1 hc.2
  exact ⟨l, hn.1, hn.2, h2⟩
def rdFns : Rd (List FnR) := Rd.slice rdFn 64
theorem opens_fns (n : Nat) : Rd.Opens Tryd.prog 26 rdFns n := fun H enc W base spare held fuel cs x hf =>
  Rd.opens_slice Tryd.underlying26 (by kernel_rfl) (by decide) (by kernel_rfl) (opens_fn n) H enc W base spare held fuel cs x (by omega)
theorem fnsIs_of {w : World} {A : Option Addr} {c : Nat} {fs : List FnR} (h : rdFn.C w A fs) (hl : fs.length ≤ c) (hc : c ≤ maxLen) : FnsIs w (.slice A fs.length c) fs ∧ ∀ f ∈ fs, ∀ x ∈ f.l, Full x := by
  have hfull : ∀ f ∈ fs, ∀ x ∈ f.l, Full x := fun f hf x hx => by
    obtain ⟨j, hj, rfl⟩ := List.getElem_of_mem hf
    obtain ⟨b, off, e, hcell⟩ := h (by omega)
    obtain ⟨cs, _, hcs, hK⟩ := hcell j _ (List.getElem?_eq_getElem hj)
    have hK : FnAt w fs[j] cs := hK
    obtain ⟨_, _, _, hB⟩ := hK.is
    exact hB.full x hx
  refine ⟨?_, hfull⟩
  by_cases h0 : 0 < fs.length
  · obtain ⟨b, off, rfl, hcell⟩ := h h0
    have hget : ∀ (j : Nat) f, fs[j]? = some f → ∃ A c, (w.cell? ⟨b, off + j * 5, none⟩ = some (.string f.nm) ∧ w.cell? ⟨b, off + j * 5 + 1, none⟩ = some (.int .i64 f.ps) ∧ w.cell? ⟨b, off + j * 5 + 2, none⟩ = some (.int .i64 f.vs) ∧ w.cell? ⟨b, off + j * 5 + 3, none⟩ = some (.int .i64 f.ar) ∧ w.cell? ⟨b, off + j * 5 + 4, none⟩ = some (.slice A f.l.length c)) ∧ Src w (.slice A f.l.length c) f.l.length (insCells f.l) := fun j f hf => by
      obtain ⟨cs, _, hcs, hK⟩ := hcell j f hf
      have hK : FnAt w f cs := hK
      obtain ⟨A2, c2, rfl, hB⟩ := hK.is
      have hcs : cellsAt w b (off + j * 5) [.string f.nm, .int .i64 f.ps, .int .i64 f.vs, .int .i64 f.ar, .slice A2 f.l.length c2] := hcs
      exact ⟨A2, c2, ⟨hcs 0 _ rfl, hcs 1 _ rfl, hcs 2 _ rfl, hcs 3 _ rfl, hcs 4 _ rfl⟩, hB.src⟩
    obtain ⟨_, _, ⟨g0, _⟩, _⟩ := hget 0 fs[0] (List.getElem?_eq_getElem h0)
    exact .inr ⟨b, off, c, rfl, World.block_lt_of_cell? w _ g0, hl, hc, hget⟩
  · have : fs = [] := List.eq_nil_of_length_eq_zero (by omega)
    subst this
    exact .inl ⟨rfl, A, c, rfl⟩
def CodeAt (w : World) (fs : List FnR) (cs : List Value) : Prop := ∃ A c, cs = [.slice A fs.length c] ∧ FnsIs w (.slice A fs.length c) fs ∧ ∀ f ∈ fs, ∀ x ∈ f.l, Full x
def rdCode : Rd (List FnR) := ⟨1, CodeAt⟩
theorem opens_code (n : Nat) : Rd.Opens Tryd.prog 28 rdCode n := fun H enc W base spare held fuel cs x hf h hw => by
  obtain ⟨m, hm, hl, hp⟩ := Rd.open_struct [26] Tryd.underlying28 (by kernel_rfl) (by kernel_rfl) (by kernel_rfl) h hw
  match cs, hl with
  | [c0], _ =>
    obtain ⟨y0, h0, hw0⟩ := hp 0 _ c0 rfl rfl
    obtain ⟨fs, ⟨A, c, e, h1, h2, h3⟩, _⟩ := opens_fns m H enc W base spare held m [c0] y0 (Nat.le_refl _) h0 hw0
    simp only [List.cons.injEq, and_true] at e
    subst e
    have hc := cap_of_trod Tryd.underlying26 h0
    obtain ⟨k1, k2⟩ := fnsIs_of h3 h1 hc.2
    exact ⟨fs, ⟨A, c, rfl, k1, k2⟩, rfl⟩
theorem numsrc_nil (w : World) : NumSrc w (.slice none 0 0) [] := ⟨none, 0, rfl, Nat.le_refl _, by simp [maxLen], fun h => by cases h⟩
theorem NumSrc.src {w : World} {A : Option Addr} {n c : Nat} {l : List Int} (h : NumSrc w (.slice A n c) l) : Src w (.slice A n c) n (nums l) := by
  obtain ⟨h1, h2, h3, h4⟩ := h.get
  have h3 : n ≤ maxLen := Nat.le_trans h2 h3
  by_cases h0 : 0 < l.length
  · obtain ⟨b, off, rfl, hc⟩ := h4 0 h0
    refine .inr ⟨b, off, c, rfl, World.block_lt_of_cell? w _ hc, h2, h3, fun j u hu => ?_⟩
    unfold nums at hu
    rw [List.getElem?_map] at hu
    obtain ⟨x, hx, rfl⟩ := Option.map_eq_some_iff.1 hu
    obtain ⟨hj, rfl⟩ := List.getElem?_eq_some_iff.1 hx
    obtain ⟨b2, off2, e, hc2⟩ := h4 j hj
    injection e with e
    injection e with e1 e2
    subst e1 e2
    exact hc2
  · obtain rfl : l = [] := List.eq_nil_of_length_eq_zero (by omega)
    obtain rfl : n = 0 := h1
    exact .inl ⟨⟨A, c, rfl⟩, rfl, rfl⟩
theorem infoNum : (Tryd.prog.info? 2).map (fun i => (i.zero, i.size, i.bytes)) = some (some (.int .i64 0), 1, 8) := by kernel_rfl
theorem nums_all (l : List Int) : ∀ u ∈ nums l, u.oneCell' = true := fun u hu => by
  obtain ⟨x, _, rfl⟩ := List.mem_map.1 hu
  rfl
end Go.Proofs.YtgiegkacilfofabDoor
