/- What a run comes to (out of XIntS and XIntMo: for seats without law14). -/
import Derived.Test.YtahmnmpfjgddpaaGreatDoorMach
namespace Go.Proofs.YtahmnmpfjgddpaaGreatDoor
set_option linter.unusedVariables false
set_option linter.unusedSimpArgs false
open Go.RowKit

/-! ### what a run comes to -/
theorem over_unique {fs : List FnR} {c : Conf} {a b : Nat} {g g' : GS} {r r' e e' : Int} (h : iter fs a c = .over g r e) (k : iter fs b c = .over g' r' e') : g = g' ∧ r = r' ∧ e = e' := by
  have h1 : iter fs (a + b) c = .over g r e := by rw [iter_add, h, iter_over]
  have h2 : iter fs (a + b) c = .over g' r' e' := by rw [Nat.add_comm, iter_add, k, iter_over]
  rw [h1] at h2
  injection h2 with h2 h3 h4
  exact ⟨h2, h3, h4⟩
theorem Rand.over {fs : List FnR} {f : Fr} {g g' : GS} {n err : Int} (h : Rand fs f 1 g n err g') : ∃ k, iter fs k (.run [f] g) = .over g' n err := by
  obtain ⟨hn, k, hk⟩ := h
  refine ⟨k, ?_⟩
  rw [hk [] rfl]
  unfold outC
  split
  · rename_i h; subst h; rfl
  · rename_i h; rw [hn h]
def outOf (g : GS) (r e : Int) : OutR := ⟨g.pr, g.ke, g.cl, g.now, r, e⟩
/-- the outcome of code that is right -/
theorem RunO.ok {fs : List FnR} {i0 i1 : List Int} {fuel quota : Int} {o : OutR} (h : RunO fs i0 i1 fuel quota o) (hc : CodeOk fs) : ∃ k g, iter fs k (.run [newFr fs 0 []] (startG i0 i1 fuel quota)) = .over g o.res o.err ∧ o = outOf g o.res o.err := by
  rcases h with ⟨hn, _⟩ | ⟨_, g', hr, h1, h2, h3, h4⟩
  · exact absurd hc hn
  · obtain ⟨k, hk⟩ := hr.over
    refine ⟨k, g', hk, ?_⟩
    obtain ⟨pr, ke, cl, clk, res, err⟩ := o
    simp only at h1 h2 h3 h4
    subst h1 h2 h3 h4
    rfl
theorem RunO.no {fs : List FnR} {i0 i1 : List Int} {fuel quota : Int} {o : OutR} (h : RunO fs i0 i1 fuel quota o) (hc : ¬ CodeOk fs) : o = ⟨[], [], [], 0, 0, 6⟩ := by
  rcases h with ⟨_, h⟩ | ⟨h, _⟩
  · exact h
  · exact absurd h hc
theorem RunO.is {fs : List FnR} {i0 i1 : List Int} {fuel quota : Int} {o : OutR} (h : RunO fs i0 i1 fuel quota o) (hc : CodeOk fs) {k : Nat} {g : GS} {r e : Int} (hk : iter fs k (.run [newFr fs 0 []] (startG i0 i1 fuel quota)) = .over g r e) : o = outOf g r e := by
  obtain ⟨k', g', h1, h2⟩ := h.ok hc
  obtain ⟨rfl, h3, h4⟩ := over_unique hk h1
  rw [h2, h3, h4]

theorem step_eq (fs : List FnR) (f : Fr) (rest : List Fr) (g : GS) : step fs (.run (f :: rest) g) = (if (paid g (curI fs f)).fuel < (paid g (curI fs f)).now then .over (paid g (curI fs f)) 0 8
      else if (curI fs f).op = 18 then retC (top f.stack) rest (paid g (curI fs f))
      else if (curI fs f).op = 16 then (if top f.stack = 0 then .run ({ f with at_ := (curI fs f).a.toNat, stack := f.stack.dropLast } :: rest) (paid g (curI fs f)) else .run ({ f with at_ := f.at_ + 1, stack := f.stack.dropLast } :: rest) (paid g (curI fs f)))
      else if (curI fs f).op = 15 then .run ({ f with at_ := (curI fs f).a.toNat } :: rest) (paid g (curI fs f))
      else if (curI fs f).op = 17 then
        (if 64 < rest.length + 1 then .over (paid g (curI fs f)) 0 3
         else .run (newFr fs (curI fs f).a.toNat (f.stack.drop (f.stack.length - parsOf fs (curI fs f).a)) :: { f with at_ := f.at_ + 1, stack := f.stack.take (f.stack.length - parsOf fs (curI fs f).a) } :: rest) (paid g (curI fs f)))
      else if (doesv (curI fs f) { f with at_ := f.at_ + 1 } (paid g (curI fs f))).1 = 0 then .run ((doesv (curI fs f) { f with at_ := f.at_ + 1 } (paid g (curI fs f))).2.1 :: rest) (doesv (curI fs f) { f with at_ := f.at_ + 1 } (paid g (curI fs f))).2.2 else .over (doesv (curI fs f) { f with at_ := f.at_ + 1 } (paid g (curI fs f))).2.2 0 (doesv (curI fs f) { f with at_ := f.at_ + 1 } (paid g (curI fs f))).1) := rfl
end Go.Proofs.YtahmnmpfjgddpaaGreatDoor
