/- law14: shown; code that is right; what a run comes to. -/
import Derived.Test.YtdpimkbdieafgaaDoorIntQ
namespace Go.Proofs.YtdpimkbdieafgaaDoor
set_option linter.unusedVariables false
set_option linter.unusedSimpArgs false
open Go.RowKit

/-! ### what a run comes to -/
theorem over_unique {fs : List FnR} {c : Conf} {a b : Nat} {g g' : GS} {r r' e e' : Int} (h : iter fs a c = .over g r e) (k : iter fs b c = .over g' r' e') : g = g' ∧ r = r' ∧ e = e' := by
  have h1 : iter fs (a + b) c = .over g r e := by rw [iter_add, h, iter_over]
  have h2 : iter fs (a + b) c = .over g' r' e' := by rw [Nat.add_comm, iter_add, k, iter_over]
  rw [h1] at h2
  injection h2 with h2 h3 h4
  exact ⟨h2, h3, h4⟩
theorem Rand.over {fs : List FnR} {f : Fr} {g g' : GS} {n err : Int} (h : Rand fs f 1 g n err g') : ∃ k, iter fs k (.run [f] g) = .over g' n err := by
  obtain ⟨hn, k, hk⟩ := h
  refine ⟨k, ?_⟩
  rw [hk [] rfl]
  unfold outC
  split
  · rename_i h; subst h; rfl
  · rename_i h; rw [hn h]
def outOf (g : GS) (r e : Int) : OutR := ⟨g.pr, g.ke, g.cl, g.now, r, e⟩
/-- the outcome of code that is right -/
theorem RunO.ok {fs : List FnR} {i0 i1 : List Int} {fuel quota : Int} {o : OutR} (h : RunO fs i0 i1 fuel quota o) (hc : CodeOk fs) : ∃ k g, iter fs k (.run [newFr fs 0 []] (startG i0 i1 fuel quota)) = .over g o.res o.err ∧ o = outOf g o.res o.err := by
  rcases h with ⟨hn, _⟩ | ⟨_, g', hr, h1, h2, h3, h4⟩
  · exact absurd hc hn
  · obtain ⟨k, hk⟩ := hr.over
    refine ⟨k, g', hk, ?_⟩
    obtain ⟨pr, ke, cl, clk, res, err⟩ := o
    simp only at h1 h2 h3 h4
    subst h1 h2 h3 h4
    rfl
theorem RunO.no {fs : List FnR} {i0 i1 : List Int} {fuel quota : Int} {o : OutR} (h : RunO fs i0 i1 fuel quota o) (hc : ¬ CodeOk fs) : o = ⟨[], [], [], 0, 0, 6⟩ := by
  rcases h with ⟨_, h⟩ | ⟨h, _⟩
  · exact h
  · exact absurd h hc
theorem RunO.is {fs : List FnR} {i0 i1 : List Int} {fuel quota : Int} {o : OutR} (h : RunO fs i0 i1 fuel quota o) (hc : CodeOk fs) {k : Nat} {g : GS} {r e : Int} (hk : iter fs k (.run [newFr fs 0 []] (startG i0 i1 fuel quota)) = .over g r e) : o = outOf g r e := by
  obtain ⟨k', g', h1, h2⟩ := h.ok hc
  obtain ⟨rfl, h3, h4⟩ := over_unique hk h1
  rw [h2, h3, h4]

/-! ### code that is right -/
def chkV (fs : List FnR) (f : FnR) (V : List (Int × Int)) : Bool :=
  (lookv V 0 == some 0) && V.all (fun x => decide (0 ≤ x.1) && decide (x.1 < (f.l.length : Int)) && okAt fs f (insAt f x.1) x.2 && (succs (insAt f x.1) x.1).all (fun q => lookv V q == some (behind fs (insAt f x.1) x.2))) &&
    (List.range V.length).all (fun i => (V.getD i (0, 0) == (0, 0)) || (List.range i).any (fun j => (succs (insAt f (V.getD j (0, 0)).1) (V.getD j (0, 0)).1).contains (V.getD i (0, 0)).1 && ((V.getD i (0, 0)).2 == behind fs (insAt f (V.getD j (0, 0)).1) (V.getD j (0, 0)).2)))
theorem sty_of_chk {fs : List FnR} {f : FnR} (V : List (Int × Int)) (h : chkV fs f V = true) : STy fs f := by
  unfold chkV at h
  simp only [Bool.and_eq_true, beq_iff_eq, List.all_eq_true, decide_eq_true_eq, Bool.or_eq_true, List.any_eq_true, List.mem_range, List.contains_iff_mem] at h
  obtain ⟨⟨h0, hall⟩, hgen⟩ := h
  refine ⟨V, ⟨h0, fun p dp hp => ?_⟩, fun i x hi => ?_⟩
  · obtain ⟨⟨⟨a, b⟩, c⟩, d⟩ := hall _ (lookv_some hp)
    exact ⟨⟨a, b⟩, c, d⟩
  · have hil : i < V.length := (List.getElem?_eq_some_iff.1 hi).1
    have e : V.getD i (0, 0) = x := by rw [List.getD_eq_getElem?_getD, hi]; rfl
    rcases hgen i hil with h | ⟨j, hj, h1, h2⟩
    · exact .inl (by rw [← e]; exact h)
    · have hjl : j < V.length := by omega
      have ej : V[j]? = some (V.getD j (0, 0)) := by rw [List.getD_eq_getElem?_getD, List.getElem?_eq_getElem hjl]; rfl
      rw [e] at h1 h2
      exact .inr ⟨j, V.getD j (0, 0), hj, ej, (hall _ (List.mem_of_getElem? ej)).1.2, h1, h2⟩

def shL : List InsR := [⟨1, 0, 1⟩, ⟨1, 0, 2⟩, ⟨6, 0, 0⟩, ⟨19, 0, 0⟩, ⟨1, 0, 0⟩, ⟨18, 0, 0⟩]
def shF : List FnR := [⟨⟨#[]⟩, 0, 0, 0, shL⟩]
theorem shF_ok : CodeOk shF := by
  refine ⟨by decide, rfl, fun f hf => ?_⟩
  have e : f = ⟨⟨#[]⟩, 0, 0, 0, shL⟩ := by simpa [shF] using hf
  subst e
  exact ⟨by unfold hdr; decide, sty_of_chk [(0, 0), (1, 1), (2, 2), (3, 1), (4, 0), (5, 1)] (by kernel_rfl)⟩
theorem noF_no : ¬ CodeOk [] := fun h => by have := h.1.1; simp at this
theorem sh_run1 : ∃ g, iter shF 6 (.run [newFr shF 0 []] (startG [] [] 11 0)) = .over g 0 0 ∧ outOf g 0 0 = ⟨[3], [], [], 11, 0, 0⟩ := ⟨_, by rfl, by kernel_rfl⟩
theorem sh_run2 : ∃ g, iter shF 6 (.run [newFr shF 0 []] (startG [] [] 10 0)) = .over g 0 8 ∧ outOf g 0 8 = ⟨[3], [], [], 11, 0, 8⟩ := ⟨_, by rfl, by kernel_rfl⟩
end Go.Proofs.YtdpimkbdieafgaaDoor
