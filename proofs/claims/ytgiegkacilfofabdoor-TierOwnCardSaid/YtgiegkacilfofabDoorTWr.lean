/- law19: rows that are the caller's, and are written over. -/
import Derived.Test.YtgiegkacilfofabDoorTG2
namespace Go.Proofs.YtgiegkacilfofabDoor
set_option linter.unusedVariables false
set_option linter.unusedSimpArgs false
open Go.RowKit

/-- the block of a row -/
def AtB (A : Option Addr) (k : Nat) : Prop := A = some ⟨k, 0, none⟩
/-- a row that was whole at wz, written over since -/
structure RB (wz w : World) (A : Option Addr) (t : TypeId) (sz n : Nat) : Prop where
  chg : Chg (AtB A) wz w
  box : 0 < n → ∃ b cs, A = some ⟨b, 0, none⟩ ∧ w.heap[b]? = some (.cells cs t (0, 0)) ∧ n * sz ≤ cs.size
theorem RB.of_row {w : World} {A : Option Addr} {c : Nat} {t : TypeId} {sz n : Nat} {xs : List Value} (h : w.ownsRow 0 t sz (.slice A n c) n xs) : RB w w A t sz n := ⟨Chg.refl _ _, fun hn => by
  rcases h.2 with ⟨_, h0⟩ | ⟨g, cap, cur, e, hb, hh, h1, h2, h3, h4⟩
  · omega
  · injection e with e1 e2 e3
    subst e1 e3
    refine ⟨g, cur, rfl, hh, ?_⟩
    rw [h3]
    exact Nat.mul_le_mul_right _ h1⟩
theorem RB.set3 {wz w : World} {b : Nat} {t : TypeId} {n : Nat} {cs : Array Value} (hc : Chg (AtB (some ⟨b, 0, none⟩)) wz w) (hb : w.heap[b]? = some (.cells cs t (0, 0))) (hn : n * 3 ≤ cs.size) (j : Nat) (x y z : Value) :
    RB wz (((w.setCell ⟨b, j * 3, none⟩ x).setCell ⟨b, j * 3 + 1, none⟩ y).setCell ⟨b, j * 3 + 2, none⟩ z) (some ⟨b, 0, none⟩) t 3 n := by
  exact ⟨((hc.setCell (p := ⟨b, j * 3, none⟩) (fun _ => rfl) x).setCell (p := ⟨b, j * 3 + 1, none⟩) (fun _ => rfl) y).setCell (p := ⟨b, j * 3 + 2, none⟩) (fun _ => rfl) z, fun _ => ⟨b, _, rfl, heap_set (heap_set (heap_set hb _ _) _ _) _ _, by simpa using hn⟩⟩
theorem RB.set2 {wz w : World} {b : Nat} {t : TypeId} {n : Nat} {cs : Array Value} (hc : Chg (AtB (some ⟨b, 0, none⟩)) wz w) (hb : w.heap[b]? = some (.cells cs t (0, 0))) (hn : n * 2 ≤ cs.size) (j : Nat) (x y : Value) :
    RB wz ((w.setCell ⟨b, j * 2, none⟩ x).setCell ⟨b, j * 2 + 1, none⟩ y) (some ⟨b, 0, none⟩) t 2 n :=
  ⟨(hc.setCell (p := ⟨b, j * 2, none⟩) (fun _ => rfl) x).setCell (p := ⟨b, j * 2 + 1, none⟩) (fun _ => rfl) y, fun _ => ⟨b, _, rfl, heap_set (heap_set hb _ _) _ _, by simpa using hn⟩⟩
/-- two managers, beside a row that was written over -/
theorem TM2.written {w0 wz w : World} {ga gb : Nat → Nat} {ma mb : Nat} {cap : Int} {np : Nat} {xa xb : TAdr} {Ta Tb : TS} {A : Option Addr} (h : TM2 w0 wz ga gb ma mb cap np xa xb Ta Tb) (hc : Chg (AtB A) wz w) (hz : ∀ k, AtB A k → ga k = 0 ∧ gb k = 0 ∧ w0.heap.size ≤ k) : TM2 w0 w ga gb ma mb cap np xa xb Ta Tb := by
  have hb : Below w0.heap.size w0 w := h.a.bel.trans (hc.below (fun k hk => (hz k hk).2.2) h.a.bel.size)
  exact ⟨h.a.keptX hc (fun k hk hk2 => hk (hz k hk2).1) hb, h.b.keptX hc (fun k hk hk2 => hk (hz k hk2).2.1) hb, h.ap⟩
/-- the first one's Enter: what is not its own stays so -/
theorem TM2.enterX {w0 w : World} {ga gb : Nat → Nat} {ma mb : Nat} {cap : Int} {np : Nat} {xa xb : TAdr} {Ta Tb : TS} (h : TM2 w0 w ga gb ma mb cap np xa xb Ta Tb) {V : Value} {args : List Int} (ha : NumSrc w V args) (fn : Int) (hnp : np + 20 < 1048576) :
    Calls Tryd.prog 9 #[.pointer (some ⟨ma, 0, none⟩), .int .i64 fn, V] w fun e w' => ∃ VB ga', e = .returned (.tuple #[VB, .bool (enterV cap Ta fn args).1.2.1, .int .i64 (enterV cap Ta fn args).1.2.2]) ∧
      w'.ownsRow 0 44 3 VB (enterV cap Ta fn args).1.1.length (insCells (enterV cap Ta fn args).1.1) ∧ (∀ k, VB.ownBlock = some k → w.heap.size ≤ k ∧ ga' k = 0 ∧ gb k = 0) ∧ TM2 w0 w' ga' gb ma mb cap (np + 10) xa xb (enterV cap Ta fn args).2 Tb ∧ Chg (Own ga) w w' ∧ ∀ k, k < w.heap.size → ga k = 0 → ga' k = 0 := by
  refine (h.a.enter ha fn hnp).mono ?_
  rintro e w' ⟨VB, ga', rfl, h1, h2, h3, h4, h5⟩
  have hz : ∀ k, w.heap.size ≤ k → gb k = 0 := fun k hk => by
    rcases Nat.eq_zero_or_pos (gb k) with e | e
    · exact e
    · have := h.b.tc.lt k (by omega); omega
  refine ⟨VB, ga', rfl, h1, fun k hk => ⟨(h2 k hk).1, (h2 k hk).2, hz k (h2 k hk).1⟩, ⟨h3, (h.b.mono (by omega)).keptX h5 (fun k hk hk2 => hk (h.ap k hk2)) h3.bel, fun k hk => ?_⟩, h5, fun k hk h0 => ?_⟩
  · rcases h4.new k hk with hk | hk
    · exact h.ap k hk
    · exact hz k hk
  · rcases Nat.eq_zero_or_pos (ga' k) with e | e
    · exact e
    · rcases h4.new k (by omega) with e2 | e2
      · exact absurd h0 e2
      · omega
end Go.Proofs.YtgiegkacilfofabDoor
