/- tier: how public parameters, picks and calls that are handed in read. -/
import Derived.Test.YtgiegkacilfofaaDoorTierS
import Derived.Test.YtgiegkacilfofaaDoorTFew
namespace Go.Proofs.YtgiegkacilfofaaDoor
set_option linter.unusedVariables false
set_option linter.unusedSimpArgs false
open Go.ChangeShapes Go.WideShapes Go.ChangeAt Go.RowKit

theorem in64_wf' {x : Int} (h : (Lit.int .i64 x).wf = true) : In64 x := in64_of h
def rdI64r : Rd (List Int) := Rd.slice (Rd.int .i64) 8
theorem opens_i64r (n : Nat) : Rd.Opens Tryd.prog 26 rdI64r n := fun H enc W base spare held fuel cs x hf =>
  Rd.opens_slice Tryd.underlying26 (by kernel_rfl) (by decide) (by kernel_rfl) (Rd.opens_int Tryd.underlying2 n) H enc W base spare held fuel cs x (by omega)
theorem numSrc_of' {w : World} {A : Option Addr} {c : Nat} {l : List Int} (h : (Rd.int .i64).C w A l) (hl : l.length ≤ c) (hc : c ≤ maxLen) : NumSrc w (.slice A l.length c) l ∧ ∀ x ∈ l, In64 x := by
  refine ⟨⟨A, c, rfl, hl, hc, fun h0 => ?_⟩, fun x hx => ?_⟩
  · obtain ⟨b, off, e, hx⟩ := h h0
    refine ⟨b, off, e, fun j x hj => ?_⟩
    obtain ⟨cs, _, hcs, hK⟩ := hx j x hj
    have hK : cs = [.int .i64 x] ∧ (Lit.int .i64 x).wf = true := hK
    rw [hK.1] at hcs
    have := hcs 0 _ rfl
    have e : off + j * (Rd.int .i64).sz + 0 = off + j := by show off + j * 1 + 0 = off + j; omega
    rwa [e] at this
  · obtain ⟨j, hj, rfl⟩ := List.getElem_of_mem hx
    obtain ⟨b, off, e, hx⟩ := h (by omega)
    obtain ⟨cs, _, hcs, hK⟩ := hx j _ (List.getElem?_eq_getElem hj)
    exact in64_wf' hK.2
/-- a row of numbers that is handed in -/
def NumsAt (w : World) (A : Option Addr) (c : Nat) (l : List Int) : Prop := NumSrc w (.slice A l.length c) l ∧ (∀ x ∈ l, In64 x) ∧ l.length * 8 ≤ 140737488351232
def rdNums : Rd (List Int) := ⟨1, fun w l cs => ∃ A c, cs = [.slice A l.length c] ∧ NumsAt w A c l⟩
theorem opens_numsR (n : Nat) : Rd.Opens Tryd.prog 26 rdNums n := fun H enc W base spare held fuel cs x hf h hw => by
  obtain ⟨l, ⟨A, c, rfl, h1, h2, h3⟩, hh⟩ := opens_i64r n H enc W base spare held fuel cs x (by omega) h hw
  have hc := cap_of_trod Tryd.underlying26 h
  have hn := numSrc_of' h3 h1 hc.2
  exact ⟨l, ⟨A, c, rfl, hn.1, hn.2, h2⟩, rfl⟩
theorem nums_of {w : World} {l : List Int} {v : Value} (h : rdNums.K w l [v]) : ∃ A c, v = .slice A l.length c ∧ NumsAt w A c l := by
  obtain ⟨A, c, e, h⟩ := h
  exact ⟨A, c, by simpa using e, h⟩

def rdBools : Rd (List Bool) := Rd.slice Rd.bool 1
theorem opens_bools (n : Nat) : Rd.Opens Tryd.prog 34 rdBools n := fun H enc W base spare held fuel cs x hf =>
  Rd.opens_slice Tryd.underlying34 (by kernel_rfl) (by decide) (by kernel_rfl) (Rd.opens_bool Tryd.underlying4 n) H enc W base spare held fuel cs x (by omega)
def rdBoolRow : Rd (List Bool) := ⟨1, fun w l cs => ∃ V, cs = [V] ∧ BoolRow w V l ∧ l.length ≤ 140737488351232⟩
theorem opens_boolrow (n : Nat) : Rd.Opens Tryd.prog 34 rdBoolRow n := fun H enc W base spare held fuel cs x hf h hw => by
  obtain ⟨l, ⟨A, c, rfl, h1, h2, h3⟩, hh⟩ := opens_bools n H enc W base spare held fuel cs x (by omega) h hw
  have hc := cap_of_trod Tryd.underlying34 h
  refine ⟨l, ⟨_, rfl, ⟨A, c, rfl, h1, hc.2, fun h0 => ?_⟩, by omega⟩, rfl⟩
  obtain ⟨b, off, e, hx⟩ := h3 h0
  refine ⟨b, off, e, fun j x hj => ?_⟩
  obtain ⟨cs, _, hcs, hK⟩ := hx j x hj
  have hK : cs = [.bool x] := hK
  rw [hK] at hcs
  have := hcs 0 _ rfl
  have e : off + j * (Rd.bool).sz + 0 = off + j := by show off + j * 1 + 0 = off + j; omega
  rwa [e] at this
/-- public parameters that are handed in -/
def PubAt (w : World) (A : Option Addr) (c : Nat) (l : List (List Bool)) : Prop := PubIs w (.slice A l.length c) l ∧ l.length * 24 ≤ 140737488351232 ∧ ∀ r ∈ l, r.length ≤ 140737488351232
def rdPubs : Rd (List (List Bool)) := Rd.slice rdBoolRow 24
theorem opens_pubs (n : Nat) : Rd.Opens Tryd.prog 25 rdPubs n := fun H enc W base spare held fuel cs x hf =>
  Rd.opens_slice Tryd.underlying25 (by kernel_rfl) (by decide) (by kernel_rfl) (opens_boolrow n) H enc W base spare held fuel cs x (by omega)
def rdPub : Rd (List (List Bool)) := ⟨1, fun w l cs => ∃ A c, cs = [.slice A l.length c] ∧ PubAt w A c l⟩
theorem opens_pub (n : Nat) : Rd.Opens Tryd.prog 25 rdPub n := fun H enc W base spare held fuel cs x hf h hw => by
  obtain ⟨l, ⟨A, c, rfl, h1, h2, h3⟩, hh⟩ := opens_pubs n H enc W base spare held fuel cs x (by omega) h hw
  have hc := cap_of_trod Tryd.underlying25 h
  refine ⟨l, ⟨A, c, rfl, ⟨A, c, rfl, h1, hc.2, fun h0 => ?_⟩, h2, fun r hr => ?_⟩, rfl⟩
  · obtain ⟨b, off, e, hx⟩ := h3 h0
    refine ⟨b, off, e, fun j x hj => ?_⟩
    obtain ⟨cs, _, hcs, hK⟩ := hx j x hj
    have hK : ∃ V, cs = [V] ∧ BoolRow W V x ∧ x.length ≤ 140737488351232 := hK
    obtain ⟨V, rfl, hV, _⟩ := hK
    have := hcs 0 _ rfl
    have e : off + j * (rdBoolRow).sz + 0 = off + j := by show off + j * 1 + 0 = off + j; omega
    rw [e] at this
    exact ⟨V, this, hV⟩
  · obtain ⟨j, hj, rfl⟩ := List.getElem_of_mem hr
    obtain ⟨b, off, e, hx⟩ := h3 (by omega)
    obtain ⟨cs, _, hcs, hK⟩ := hx j _ (List.getElem?_eq_getElem hj)
    have hK : ∃ V, cs = [V] ∧ BoolRow W V l[j] ∧ (l[j]).length ≤ 140737488351232 := hK
    obtain ⟨V, _, _, hV⟩ := hK
    exact hV
theorem pub_of {w : World} {l : List (List Bool)} {v : Value} (h : rdPub.K w l [v]) : ∃ A c, v = .slice A l.length c ∧ PubAt w A c l := by
  obtain ⟨A, c, e, h⟩ := h
  exact ⟨A, c, by simpa using e, h⟩

/-- a call that is asked for -/
structure AskR where
  fn : Int
  args : List Int
  oth : List Int
def AskAt (w : World) (x : AskR) (cs : List Value) : Prop := ∃ A1 c1 A2 c2, cs = [.int .i64 x.fn, .slice A1 x.args.length c1, .slice A2 x.oth.length c2] ∧ NumsAt w A1 c1 x.args ∧ NumsAt w A2 c2 x.oth
def rdAsk : Rd AskR := ⟨3, AskAt⟩
theorem opens_ask (n : Nat) : Rd.Opens Tryd.prog 33 rdAsk n := fun H enc W base spare held fuel cs x hf h hw => by
  obtain ⟨m, hm, hl, hp⟩ := Rd.open_struct [3, 26, 26] Tryd.underlying33 (by kernel_rfl) (by kernel_rfl) (by kernel_rfl) h hw
  match cs, hl with
  | [c0, c1, c2], _ =>
    obtain ⟨y0, h0, _⟩ := hp 0 _ c0 rfl rfl
    obtain ⟨y1, h1, hw1⟩ := hp 1 _ c1 rfl rfl
    obtain ⟨y2, h2, hw2⟩ := hp 2 _ c2 rfl rfl
    obtain ⟨a0, e0, _, _⟩ := DataW.trod_int Tryd.underlying3 h0
    obtain ⟨l1, ⟨A1, d1, e1, k1⟩, _⟩ := opens_numsR m H enc W base spare held m [c1] y1 (Nat.le_refl _) h1 hw1
    obtain ⟨l2, ⟨A2, d2, e2, k2⟩, _⟩ := opens_numsR m H enc W base spare held m [c2] y2 (Nat.le_refl _) h2 hw2
    simp only [List.cons.injEq, and_true] at e0 e1 e2
    subst e0; subst e1; subst e2
    exact ⟨⟨a0, l1, l2⟩, ⟨A1, d1, A2, d2, rfl, k1, k2⟩, rfl⟩
/-- calls that are handed in -/
def AsksAt (w : World) (A : Option Addr) (c : Nat) (l : List AskR) : Prop := l.length ≤ c ∧ c ≤ maxLen ∧ (0 < l.length → ∃ b off, A = some ⟨b, off, none⟩ ∧ ∀ (j : Nat) (x : AskR), l[j]? = some x → ∃ (A1 : Option Addr) (c1 : Nat) (A2 : Option Addr) (c2 : Nat),
  w.cell? ⟨b, off + j * 3, none⟩ = some (.int .i64 x.fn) ∧ w.cell? ⟨b, off + j * 3 + 1, none⟩ = some (.slice A1 x.args.length c1) ∧ w.cell? ⟨b, off + j * 3 + 2, none⟩ = some (.slice A2 x.oth.length c2) ∧ NumsAt w A1 c1 x.args ∧ NumsAt w A2 c2 x.oth)
theorem NumsAt.keep {w w' : World} {A : Option Addr} {c : Nat} {l : List Int} (h : NumsAt w A c l) (hb : Below w.heap.size w w') : NumsAt w' A c l := ⟨h.1.keep hb, h.2⟩
theorem AsksAt.keep {w w' : World} {A : Option Addr} {c : Nat} {l : List AskR} (h : AsksAt w A c l) (hb : Below w.heap.size w w') : AsksAt w' A c l := by
  obtain ⟨h1, h2, h3⟩ := h
  refine ⟨h1, h2, fun h0 => ?_⟩
  obtain ⟨b, off, e, hx⟩ := h3 h0
  refine ⟨b, off, e, fun j x hj => ?_⟩
  obtain ⟨A1, c1, A2, c2, k0, k1, k2, n1, n2⟩ := hx j x hj
  have hc := Below.chg hb
  exact ⟨A1, c1, A2, c2, hc.cell k0 (fun x => x), hc.cell k1 (fun x => x), hc.cell k2 (fun x => x), n1.keep hb, n2.keep hb⟩
theorem PubAt.keep {w w' : World} {A : Option Addr} {c : Nat} {l : List (List Bool)} (h : PubAt w A c l) (hb : Below w.heap.size w w') : PubAt w' A c l := by
  obtain ⟨⟨A', c', e, h1, h2, h3⟩, h4, h5⟩ := h
  refine ⟨⟨A', c', e, h1, h2, fun h0 => ?_⟩, h4, h5⟩
  obtain ⟨b, off, e2, hx⟩ := h3 h0
  refine ⟨b, off, e2, fun j r hr => ?_⟩
  obtain ⟨V, k1, k2⟩ := hx j r hr
  exact ⟨V, (Below.chg hb).cell k1 (fun x => x), boolRow_keep k2 hb⟩
def rdAskRow : Rd (List AskR) := Rd.slice rdAsk 56
theorem opens_askrow (n : Nat) : Rd.Opens Tryd.prog 27 rdAskRow n := fun H enc W base spare held fuel cs x hf =>
  Rd.opens_slice Tryd.underlying27 (by kernel_rfl) (by decide) (by kernel_rfl) (opens_ask n) H enc W base spare held fuel cs x (by omega)
def rdAsks : Rd (List AskR) := ⟨1, fun w l cs => ∃ A c, cs = [.slice A l.length c] ∧ AsksAt w A c l⟩
theorem opens_asks (n : Nat) : Rd.Opens Tryd.prog 27 rdAsks n := fun H enc W base spare held fuel cs x hf h hw => by
  obtain ⟨l, ⟨A, c, rfl, h1, h2, h3⟩, hh⟩ := opens_askrow n H enc W base spare held fuel cs x (by omega) h hw
  have hc := cap_of_trod Tryd.underlying27 h
  refine ⟨l, ⟨A, c, rfl, h1, hc.2, fun h0 => ?_⟩, rfl⟩
  obtain ⟨b, off, e, hx⟩ := h3 h0
  refine ⟨b, off, e, fun j x hj => ?_⟩
  obtain ⟨cs, _, hcs, hK⟩ := hx j x hj
  have hK : AskAt W x cs := hK
  obtain ⟨A1, c1, A2, c2, rfl, n1, n2⟩ := hK
  have hcs : cellsAt W b (off + j * 3) [.int .i64 x.fn, .slice A1 x.args.length c1, .slice A2 x.oth.length c2] := hcs
  exact ⟨A1, c1, A2, c2, hcs 0 _ rfl, hcs 1 _ rfl, hcs 2 _ rfl, n1, n2⟩
theorem asks_of {w : World} {l : List AskR} {v : Value} (h : rdAsks.K w l [v]) : ∃ A c, v = .slice A l.length c ∧ AsksAt w A c l := by
  obtain ⟨A, c, e, h⟩ := h
  exact ⟨A, c, by simpa using e, h⟩
end Go.Proofs.YtgiegkacilfofaaDoor
