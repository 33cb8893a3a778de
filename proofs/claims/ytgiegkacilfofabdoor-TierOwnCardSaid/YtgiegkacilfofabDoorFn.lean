/- Functions of code that are handed in. -/
import Derived.Test.YtgiegkacilfofabDoorBodyRd
namespace Go.Proofs.YtgiegkacilfofabDoor
set_option linter.unusedVariables false
set_option linter.unusedSimpArgs false
open Go.ChangeShapes Go.WideShapes Go.ChangeAt Go.RowKit

/-- the first so many of a row that came in -/
theorem BodyAt.take {w : World} {A : Option Addr} {c : Nat} {l : List InsR} (h : BodyAt w A c l) (m : Nat) (hm : m ≤ l.length) : Src w (.slice A m c) (l.take m).length (insCells (l.take m)) := by
  have hl : (l.take m).length = m := by rw [List.length_take]; omega
  rw [hl]
  rcases h.src with ⟨_, h0, _⟩ | ⟨b, off, cap, e, hb, h1, h2, h3⟩
  · have : m = 0 := by omega
    subst this
    exact .inl ⟨⟨A, c, rfl⟩, rfl, rfl⟩
  · injection e with e1 e2 e3
    subst e1 e3
    refine .inr ⟨b, off, c, rfl, hb, by omega, by omega, fun j u hu => h3 j u ?_⟩
    have : insCells l = insCells (l.take m) ++ insCells (l.drop m) := by rw [← insCells_append, List.take_append_drop]
    rw [this, List.getElem?_append_left (List.getElem?_eq_some_iff.1 hu).1]
    exact hu
theorem BodyAt.keep {w w' : World} {A : Option Addr} {c : Nat} {l : List InsR} (h : BodyAt w A c l) (hb : Below w.heap.size w w') : BodyAt w' A c l := ⟨h.src.kept (Below.chg hb) (.inr fun _ _ x => x), h.full, h.fits, h.bytes⟩

structure FnR where
  nm : ByteArray
  ps : Int
  vs : Int
  ar : Int
  l : List InsR
/-- a function of code that is handed in -/
structure FnAt (w : World) (f : FnR) (cs : List Value) : Prop where
  is : ∃ A c, cs = [.string f.nm, .int .i64 f.ps, .int .i64 f.vs, .int .i64 f.ar, .slice A f.l.length c] ∧ BodyAt w A c f.l
def rdFn : Rd FnR := ⟨5, fun w f cs => FnAt w f cs⟩
theorem opens_fn (n : Nat) : Rd.Opens Tryd.prog 39 rdFn n := fun H enc W base spare held fuel cs x hf h hw => by
  obtain ⟨m, hm, hl, hp⟩ := Rd.open_struct [9, 3, 3, 3, 32] Tryd.underlying39 (by kernel_rfl) (by kernel_rfl) (by kernel_rfl) h hw
  match cs, hl with
  | [c0, c1, c2, c3, c4], _ =>
    obtain ⟨y0, h0, _⟩ := hp 0 _ c0 rfl rfl
    obtain ⟨y1, h1, _⟩ := hp 1 _ c1 rfl rfl
    obtain ⟨y2, h2, _⟩ := hp 2 _ c2 rfl rfl
    obtain ⟨y3, h3, _⟩ := hp 3 _ c3 rfl rfl
    obtain ⟨y4, h4, hw4⟩ := hp 4 _ c4 rfl rfl
    obtain ⟨s0, e0, _, _⟩ := DataW.trod_string Tryd.underlying9 h0
    obtain ⟨a1, e1, _, _⟩ := DataW.trod_int Tryd.underlying3 h1
    obtain ⟨a2, e2, _, _⟩ := DataW.trod_int Tryd.underlying3 h2
    obtain ⟨a3, e3, _, _⟩ := DataW.trod_int Tryd.underlying3 h3
    obtain ⟨bd, hb, _⟩ := opens_body n H enc W base spare held m [c4] y4 (by omega) h4 hw4
    obtain ⟨A, c, e4, hB⟩ := body_of hb
    simp only [List.cons.injEq, and_true] at e0 e1 e2 e3
    subst e0; subst e1; subst e2; subst e3; subst e4
    exact ⟨⟨s0, a1, a2, a3, bd⟩, ⟨A, c, rfl, hB⟩, rfl⟩

end Go.Proofs.YtgiegkacilfofabDoor
