/- Rows of instructions: slices.Clone (out of XCacheRow). -/
import Derived.Test.YtgiegkacilfofabDoorRow
import Derived.Deep.LoopGhost
import Derived.Deep.QuietTactic
import Derived.BigQuiet
import Derived.Lib.Hide
import Derived.Lib.LazyBuf
namespace Go.Proofs.YtgiegkacilfofabDoor
set_option linter.unusedVariables false
set_option linter.unusedSimpArgs false
open Go.RowKit

structure InsR where
  op : Int
  a : Int
  n : Int
deriving DecidableEq
def InsR.cells (p : InsR) : List Value := [.int .i64 p.op, .int .i64 p.a, .int .i64 p.n]
def insCells (l : List InsR) : List Value := l.flatMap InsR.cells
theorem insCells_length (l : List InsR) : (insCells l).length = l.length * 3 := by
  induction l with
  | nil => rfl
  | cons p l ih => simp only [insCells, List.flatMap_cons, List.length_append, List.length_cons] at ih ⊢; rw [ih]; simp [InsR.cells]; omega
theorem insCells_one (l : List InsR) : ∀ u ∈ insCells l, u.oneCell' = true := fun u hu => by
  obtain ⟨p, _, hp⟩ := List.mem_flatMap.1 hu
  simp only [InsR.cells, List.mem_cons, List.not_mem_nil, or_false] at hp
  rcases hp with rfl | rfl | rfl <;> rfl
theorem insCells_get (l : List InsR) (k : Nat) (h : k < l.length) : (insCells l)[k * 3]? = some (.int .i64 l[k].op) ∧ (insCells l)[k * 3 + 1]? = some (.int .i64 l[k].a) ∧ (insCells l)[k * 3 + 2]? = some (.int .i64 l[k].n) := by
  induction l generalizing k with
  | nil => simp at h
  | cons p l ih =>
    cases k with
    | zero => simp [insCells, InsR.cells]
    | succ k =>
      have := ih k (by simpa using h)
      unfold insCells at this ⊢
      simp only [List.flatMap_cons, List.getElem_cons_succ]
      have hp : p.cells.length = 3 := rfl
      rw [List.getElem?_append_right (by omega), List.getElem?_append_right (by omega), List.getElem?_append_right (by omega), hp]
      rw [show (k + 1) * 3 - 3 = k * 3 by omega, show (k + 1) * 3 + 1 - 3 = k * 3 + 1 by omega, show (k + 1) * 3 + 2 - 3 = k * 3 + 2 by omega]
      exact this

/-- the value v is a slice whose elements' cells are cs, of size each -/
def Src (w : World) (v : Value) (n : Nat) (cs : List Value) : Prop :=
  ((∃ A c, v = .slice A 0 c) ∧ n = 0 ∧ cs = []) ∨ ∃ b off cap, v = .slice (some ⟨b, off, none⟩) n cap ∧ b < w.heap.size ∧ n ≤ cap ∧ n ≤ maxLen ∧ ∀ (j : Nat) u, cs[j]? = some u → w.cell? ⟨b, off + j, none⟩ = some u
theorem Src.of_row {w : World} {e : TypeId} {size n : Nat} {v : Value} {xs : List Value} (h : w.ownsRow 0 e size v n xs) : Src w v n xs := by
  have hcs := fun g hg => h.cells (g := g) hg
  have hl := h.1
  rcases h.2 with ⟨rfl, rfl⟩ | ⟨g, cap, cur, rfl, hb, hh, h1, h2, h3⟩
  · exact .inl ⟨⟨none, 0, rfl⟩, rfl, List.length_eq_zero_iff.1 (by omega)⟩
  · refine .inr ⟨g, 0, cap, rfl, lt_of_heap hh, h1, Nat.le_trans h1 h2, fun j u hu => ?_⟩
    have := hcs g rfl j u hu
    rw [add0] at this
    rwa [Nat.zero_add]
theorem Src.kept {w w' : World} {T : Nat → Prop} {n : Nat} {v : Value} {cs : List Value} (h : Src w v n cs) (hc : Chg T w w') (hn : (n = 0 ∧ cs = []) ∨ ∀ k, v.ownBlock = some k → ¬ T k) : Src w' v n cs := by
  rcases h with h | ⟨b, off, cap, rfl, hb, h1, h2, h3⟩
  · exact .inl h
  · rcases hn with ⟨rfl, rfl⟩ | hn
    · exact .inl ⟨⟨_, _, rfl⟩, rfl, rfl⟩
    · exact .inr ⟨b, off, cap, rfl, Nat.lt_of_lt_of_le hb hc.size, h1, h2, fun j u hu => hc.cell (h3 j u hu) (hn b rfl)⟩
theorem Src.bound {w : World} {n : Nat} {v : Value} {cs : List Value} (h : Src w v n cs) : n ≤ maxLen ∧ ∃ A c, v = .slice A n c := by
  rcases h with ⟨⟨A, c, rfl⟩, rfl, _⟩ | ⟨b, off, cap, rfl, _, h1, h2, _⟩
  · exact ⟨by simp [maxLen], A, c, rfl⟩
  · exact ⟨by omega, _, _, rfl⟩

theorem infoIns : (Tryd.prog.info? 44).map (fun i => (i.zero, i.size, i.bytes)) = some (some (.agg #[.int .i64 0, .int .i64 0, .int .i64 0]), 3, 24) := by kernel_rfl

set_option maxRecDepth 100000 in
theorem cloneIns_some {w : World} {ad : Addr} {n cap : Nat} {cs : List Value} (hcs : ∀ (j : Nat) u, cs[j]? = some u → w.cell? (ad.add j) = some u) (hl : cs.length = n * 3) (h1 : ∀ u ∈ cs, u.oneCell' = true) (hn : n ≤ 5864062014634) :
    Calls Tryd.prog 15 #[.slice (some ad) n cap] w fun e w' => ∃ v', e = .returned v' ∧ w'.ownsRow 0 44 3 v' n cs ∧ (∀ k, v'.ownBlock = some k → w.heap.size ≤ k) ∧ Chg (fun _ => False) w w' := by
  obtain ⟨i0, hi, hz0, hz1, hz2⟩ := info_parts infoIns
  have hrow : (w.alloc (.cells #[] 44)).ownsRow 0 44 3 (.slice (some ⟨w.heap.size, 0, none⟩) 0 0) 0 [] :=
    ⟨rfl, .inr ⟨w.heap.size, 0, #[], rfl, Nat.zero_le _, heap_new _ _, Nat.le_refl _, by simp [maxLen], rfl, rfl⟩⟩
  have hnews : ∀ (j : Nat) u, cs[j]? = some u → (w.alloc (.cells #[] 44)).cell? (ad.add j) = some u := fun j u hu => cell_alloc (hcs j u hu) _
  have HR := Lib.hid hrow
  have HNW := Lib.hid hnews
  clear hcs hnews hrow
  have hnil := Go.run_eql_slice_nil (P := Tryd.prog) w 32 _ (some ad) n cap Tryd.underlying32
  simp only [Option.isNone] at hnil
  go_enter Tryd.func15, Tryd.ntmps15
  go_wp2_with (at_builtin; refine wpList_append_own_at _ rfl _ _ 32 rfl 0 44 i0 _ 3 24 Tryd.underlying32 hi hz0 hz1 hz2 rfl (by omega) (.slice (some ⟨w.heap.size, 0, none⟩) 0 0) 0 [] rfl HR.out ad n cap cs rfl hl HNW.out h1 (by unfold maxLen; omega) (by omega) (by omega) ?_; intro v' w' h2 h3 _ h5; simp only [Nat.zero_add, List.nil_append] at h2)
  go_ret
  refine ⟨v', rfl, h2, fun k hk => ?_, ((Chg.refl (fun _ => False) w).alloc _).grownBy h3 (fun k hk hlt => ?_)⟩
  · rcases h5 with h5 | h5
    · rw [h5] at hk
      have hk : w.heap.size = k := by injection hk
      omega
    · rw [h5] at hk
      injection hk with hk
      rw [← hk]
      simp
  · have hk : w.heap.size = k := by injection hk
    omega
set_option maxRecDepth 100000 in
theorem cloneIns_nil {w : World} {cap : Nat} :
    Calls Tryd.prog 15 #[.slice none 0 cap] w fun e w' => ∃ v', e = .returned v' ∧ w'.ownsRow 0 44 3 v' 0 [] ∧ (∀ k, v'.ownBlock = some k → w.heap.size ≤ k) ∧ Chg (fun _ => False) w w' := by
  have hnil := Go.run_eql_slice_nil (P := Tryd.prog) w 32 _ none 0 cap Tryd.underlying32
  simp only [Option.isNone] at hnil
  go_enter Tryd.func15, Tryd.ntmps15
  go_wp2_with fail
  go_ret
  exact ⟨_, rfl, World.ownsRow_nil _ _ _ _, (fun k hk => by cases hk), Chg.refl _ _⟩
theorem cloneIns_any {w : World} {v : Value} {n : Nat} {cs : List Value} (h : Src w v n cs) (hl : cs.length = n * 3) (h1 : ∀ u ∈ cs, u.oneCell' = true) (hn : n ≤ 5864062014634) :
    Calls Tryd.prog 15 #[v] w fun e w' => ∃ v', e = .returned v' ∧ w'.ownsRow 0 44 3 v' n cs ∧ (∀ k, v'.ownBlock = some k → w.heap.size ≤ k) ∧ Chg (fun _ => False) w w' := by
  rcases h with ⟨⟨A, c, rfl⟩, rfl, rfl⟩ | ⟨b, off, cap, rfl, hb, hnc, hc, hcs⟩
  · cases A with
    | none => exact cloneIns_nil
    | some ad => exact cloneIns_some (fun j u hu => by simp at hu) (by simp) (fun u hu => by simp at hu) (by omega)
  · refine cloneIns_some (fun j u hu => ?_) hl h1 hn
    have : (⟨b, off, none⟩ : Addr).add j = ⟨b, off + j, none⟩ := by unfold Addr.add; split <;> simp_all
    rw [this]
    exact hcs j u hu

end Go.Proofs.YtgiegkacilfofabDoor
