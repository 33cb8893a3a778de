/- Rows that a call owns: kept, read. -/
import Derived.Test.YtgiegkacilfofabDoorBase
import Derived.Deep.AppendLies
import Derived.Lib.Hide
namespace Go.Proofs.YtgiegkacilfofabDoor
set_option linter.unusedVariables false
set_option linter.unusedSimpArgs false
open Go.RowKit

theorem ownsRow_kept {w w' : World} {T : Nat → Prop} {base : Nat} {e : TypeId} {size n : Nat} {v : Value} {xs : List Value} (h : w.ownsRow base e size v n xs) (hc : Chg T w w') (hn : ∀ k, v.ownBlock = some k → ¬ T k) : w'.ownsRow base e size v n xs := by
  obtain ⟨h1, h2⟩ := h
  refine ⟨h1, ?_⟩
  rcases h2 with h2 | ⟨g, cap, cur, rfl, hb, hh, r⟩
  · exact .inl h2
  · exact .inr ⟨g, cap, cur, rfl, hb, hc.heap hh (hn g rfl), r⟩
theorem add0 (g j : Nat) : (⟨g, 0, none⟩ : Addr).add j = ⟨g, j, none⟩ := by unfold Addr.add; split <;> simp_all
theorem ownsRow_get {w : World} {base : Nat} {e : TypeId} {v : Value} {n : Nat} {xs : List Value} (h : w.ownsRow base e 1 v n xs) (i : Nat) (hi : i < n) : ∃ g cap, v = .slice (some ⟨g, 0, none⟩) n cap ∧ n ≤ cap ∧ cap ≤ maxLen ∧ ∀ u, xs[i]? = some u → w.cell? ⟨g, i, none⟩ = some u := by
  have hcs := fun g hg => h.cells (g := g) hg i
  rcases h.2 with ⟨_, h0⟩ | ⟨g, cap, cur, rfl, hb, hh, h1, h2, h3⟩
  · omega
  · refine ⟨g, cap, rfl, h1, h2, fun u hu => ?_⟩
    have := hcs g rfl u hu
    rwa [add0] at this
theorem ownsRow_slice {w : World} {base : Nat} {e : TypeId} {size : Nat} {v : Value} {n : Nat} {xs : List Value} (h : w.ownsRow base e size v n xs) : n ≤ maxLen ∧ ∃ A c, v = .slice A n c := by
  rcases h.2 with ⟨rfl, rfl⟩ | ⟨g, cap, cur, rfl, hb, hh, h1, h2, h3⟩
  · exact ⟨by simp [maxLen], none, 0, rfl⟩
  · exact ⟨by omega, _, cap, rfl⟩
theorem ownsRow_at {w : World} {base : Nat} {e : TypeId} {size : Nat} {v : Value} {n : Nat} {xs : List Value} (h : w.ownsRow base e size v n xs) (hn : 0 < n) : ∃ g cap, v = .slice (some ⟨g, 0, none⟩) n cap ∧ g < w.heap.size ∧ ∀ i u, xs[i]? = some u → w.cell? ⟨g, i, none⟩ = some u := by
  have hcs := fun g hg => h.cells (g := g) hg
  have hlt := h.lt
  rcases h.2 with ⟨_, h0⟩ | ⟨g, cap, cur, rfl, hb, hh, h1, h2, h3⟩
  · omega
  · refine ⟨g, cap, rfl, (hlt g rfl).2, fun i u hu => ?_⟩
    have := hcs g rfl i u hu
    rwa [add0] at this
theorem Chg.of_grown {w w' : World} {row : Option Nat} (hg : w.grownBy w' row) : Chg (fun k => row = some k) w w' := ⟨hg.os, hg.tape, hg.output, hg.size, fun k hk hn => hg.block k hk (fun e => hn e.symm)⟩
theorem Chg.of_eq {w w' : World} (e : w'.heap = w.heap) (eo : w'.os = w.os) (et : w'.tape = w.tape) (eu : w'.output = w.output) (S : Nat → Prop) : Chg S w w' := ⟨eo, et, eu, by rw [e]; exact Nat.le_refl _, fun k _ _ => by rw [e]⟩
/-- a row whose block is new, or its old one -/
theorem ownsRow_lt {w : World} {base : Nat} {e : TypeId} {size n : Nat} {v : Value} {xs : List Value} (h : w.ownsRow base e size v n xs) : ∀ k, v.ownBlock = some k → k < w.heap.size := fun k hk => (h.lt k hk).2
end Go.Proofs.YtgiegkacilfofabDoor
