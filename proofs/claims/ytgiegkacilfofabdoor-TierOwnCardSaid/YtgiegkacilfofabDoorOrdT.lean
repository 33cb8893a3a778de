/- As XOrd, but where two operations may come, either may: a tree of orders. -/
import Derived.Test.YtgiegkacilfofabDoorOrd
namespace Go.Proofs.YtgiegkacilfofabDoor
set_option linter.unusedVariables false
set_option linter.unusedSimpArgs false
open Go

inductive OrdT where
  | done : OrdT
  | look (i : Nat) (t : OrdT) : OrdT
  | act (i : Nat) (t : OrdT) : OrdT
  | fork (i : Nat) (t : OrdT) (j : Nat) (u : OrdT) : OrdT
  | fork3 (i : Nat) (t : OrdT) (j : Nat) (u : OrdT) (k : Nat) (v : OrdT) : OrdT
def OrdT.len : OrdT → Nat
  | .done => 0
  | .look _ t => t.len + 1
  | .act _ t => t.len + 1
  | .fork _ t _ _ => t.len + 1
  | .fork3 _ t _ _ _ _ => t.len + 1

section
variable {P : Program} {ops : Array Oper} {Q : Exit → Act → World → Prop} {md : Region.Mode} {S : World → Prop} {N : Nat → Bool}
def ordTOk (md : Region.Mode) (ops : Array Oper) (N : Nat → Bool) : OrdT → Array Bool → Bool
  | .done, listed => (Region.ready md ops listed).isEmpty
  | .look i t, listed => (Region.ready md ops listed).contains i && freeN md ops N listed i (waits md ops i) && ordTOk md ops N t (listed.setIfInBounds i true)
  | .act i t, listed => Region.ready md ops listed == [i] && ordTOk md ops N t (listed.setIfInBounds i true)
  | .fork i t j u, listed => Region.ready md ops listed == [i, j] && t.len == u.len && ordTOk md ops N t (listed.setIfInBounds i true) && ordTOk md ops N u (listed.setIfInBounds j true)
  | .fork3 i t j u k v, listed => Region.ready md ops listed == [i, j, k] && t.len == u.len && t.len == v.len && ordTOk md ops N t (listed.setIfInBounds i true) && ordTOk md ops N u (listed.setIfInBounds j true) && ordTOk md ops N v (listed.setIfInBounds k true)
def wpT (P : Program) (ops : Array Oper) (Q : Exit → Act → World → Prop) (S : World → Prop) (N : Nat → Bool) : OrdT → Act → World → Prop
  | .done, a, w => Q .normal a w
  | .look i t, a, w => ∃ o v, ops[i]? = some o ∧ S w ∧ YieldsIf P ops S o v a ∧ (∀ c a w, Q (.panic c) (a.put o.dst v) w → Q (.panic c) a w) ∧ wpT P ops Q S N t (a.put o.dst v) w
  | .act i t, a, w => wpOp P ops Q i (fun a' w' => (N i = true → S w') ∧ wpT P ops Q S N t a' w') a w
  | .fork i t j u, a, w => wpOp P ops Q i (fun a' w' => (N i = true → S w') ∧ wpT P ops Q S N t a' w') a w ∧ wpOp P ops Q j (fun a' w' => (N j = true → S w') ∧ wpT P ops Q S N u a' w') a w
  | .fork3 i t j u k v, a, w => wpOp P ops Q i (fun a' w' => (N i = true → S w') ∧ wpT P ops Q S N t a' w') a w ∧ wpOp P ops Q j (fun a' w' => (N j = true → S w') ∧ wpT P ops Q S N u a' w') a w ∧ wpOp P ops Q k (fun a' w' => (N k = true → S w') ∧ wpT P ops Q S N v a' w') a w

theorem wpAnyN_of_tree (hs : Region.noSelect ops = true) : ∀ (t : OrdT) (listed : Array Bool) (a : Act) (w : World), ordTOk md ops N t listed = true → wpT P ops Q S N t a w → wpAnyN P md ops Q S N t.len listed a w
  | .done, listed, a, w, hc, h => ⟨by simpa [ordTOk] using hc, h⟩
  | .look i t, listed, a, w, hc, h => by
    obtain ⟨o, v, ho, hS, hy, hQ, h⟩ := h
    simp only [ordTOk, Bool.and_eq_true] at hc
    obtain ⟨f1, f2, f3⟩ := freeN_spec ho hc.1.2
    exact wpAnyN_first (· ∈ waits md ops i) f1 ho (Region.noSelect_spec hs) hQ t.len listed a w f2 f3 (by simpa using hc.1.1) hy hS (wpAnyN_of_tree hs t _ _ _ hc.2 h)
  | .act i t, listed, a, w, hc, h => by
    simp only [ordTOk, Bool.and_eq_true] at hc
    have hr : Region.ready md ops listed = [i] := by simpa using hc.1
    refine ⟨fun h0 => absurd (hr ▸ h0) (by simp), fun j hj => ?_⟩
    rw [hr, List.mem_singleton] at hj
    subst hj
    exact wpOp_mono (fun a' w' h' => ⟨h'.1, wpAnyN_of_tree hs t _ _ _ hc.2 h'.2⟩) h
  | .fork i t j u, listed, a, w, hc, h => by
    simp only [ordTOk, Bool.and_eq_true] at hc
    obtain ⟨⟨⟨hr, hl⟩, h1⟩, h2⟩ := hc
    have hr : Region.ready md ops listed = [i, j] := by simpa using hr
    have hl : t.len = u.len := by simpa using hl
    refine ⟨fun h0 => absurd (hr ▸ h0) (by simp), fun k hk => ?_⟩
    rw [hr] at hk
    simp only [List.mem_cons, List.not_mem_nil, or_false] at hk
    rcases hk with rfl | rfl
    · exact wpOp_mono (fun a' w' h' => ⟨h'.1, wpAnyN_of_tree hs t _ _ _ h1 h'.2⟩) h.1
    · refine wpOp_mono (fun a' w' h' => ⟨h'.1, ?_⟩) h.2
      rw [hl]
      exact wpAnyN_of_tree hs u _ _ _ h2 h'.2
  | .fork3 i t j u l v, listed, a, w, hc, h => by
    simp only [ordTOk, Bool.and_eq_true] at hc
    obtain ⟨⟨⟨⟨⟨hr, hl⟩, hl2⟩, h1⟩, h2⟩, h3⟩ := hc
    have hr : Region.ready md ops listed = [i, j, l] := by simpa using hr
    have hl : t.len = u.len := by simpa using hl
    have hl2 : t.len = v.len := by simpa using hl2
    refine ⟨fun h0 => absurd (hr ▸ h0) (by simp), fun k hk => ?_⟩
    rw [hr] at hk
    simp only [List.mem_cons, List.not_mem_nil, or_false] at hk
    rcases hk with rfl | rfl | rfl
    · exact wpOp_mono (fun a' w' h' => ⟨h'.1, wpAnyN_of_tree hs t _ _ _ h1 h'.2⟩) h.1
    · refine wpOp_mono (fun a' w' h' => ⟨h'.1, ?_⟩) h.2.1
      rw [hl]
      exact wpAnyN_of_tree hs u _ _ _ h2 h'.2
    · refine wpOp_mono (fun a' w' h' => ⟨h'.1, ?_⟩) h.2.2
      rw [hl2]
      exact wpAnyN_of_tree hs v _ _ _ h3 h'.2

/-- **a region that draws its order, by a tree of orders** -/
theorem wp_region_tree {id : Nat} {a : Act} {w : World} (hm : P.follows .mixedOrders = true) (t : OrdT) (hl : (t.len == ops.size && Region.noSelect ops && ordTOk .any ops N t (Array.replicate ops.size false)) = true)
    (h : wpT P ops Q S N t a w.drew) : (Code.region id ops true).wp P Q a w := by
  simp only [Bool.and_eq_true, beq_iff_eq] at hl
  refine wp_region_any hm ?_
  rw [← hl.1.1]
  exact wpAny_of_N _ _ _ _ (wpAnyN_of_tree hl.1.2 t _ _ _ (by rw [hl.1.1]; exact hl.2) h)
theorem tree_look {i : Nat} {t : OrdT} {a : Act} {w : World} {o : Oper} {v : Value} (ho : nth ops.toList i = some o) (hS : S w) (hw : Region.wanted o (yielded ops a.tmps) = true)
    (hy : ∀ w, S w → (execOp a.eval o).run P w = .ok (.value v) w) (hQ : ∀ c a w, Q (.panic c) (a.put o.dst v) w → Q (.panic c) a w) (h : wpT P ops Q S N t (a.put o.dst v) w) : wpT P ops Q S N (.look i t) a w :=
  ⟨o, v, ops_of_nth ho, hS, .inl ⟨hw, hy⟩, hQ, h⟩
theorem tree_skip {i : Nat} {t : OrdT} {a : Act} {w : World} {o : Oper} (ho : nth ops.toList i = some o) (hS : S w) (hw : Region.wanted o (yielded ops a.tmps) = false)
    (hQ : ∀ c a w, Q (.panic c) (a.put o.dst undef) w → Q (.panic c) a w) (h : wpT P ops Q S N t (a.put o.dst undef) w) : wpT P ops Q S N (.look i t) a w :=
  ⟨o, undef, ops_of_nth ho, hS, .inr ⟨hw, rfl⟩, hQ, h⟩
theorem tree_end {a : Act} {w : World} (h : Q .normal a w) : wpT P ops Q S N .done a w := h
theorem op_act {i : Nat} {a : Act} {w : World} {o : Oper} {R : Act → World → Prop} (ho : nth ops.toList i = some o) (hw : Region.wanted o (yielded ops a.tmps) = true)
    (h : ∀ K : Act → World → Prop, (∀ a' w', R a' w' → K a' w') → o.wp P a w K Q) : wpOp P ops Q i R a w := by
  unfold wpOp
  simp only [ops_of_nth ho]
  rw [if_pos hw]
  exact .inl (h _ (fun _ _ x => x))
theorem tree_act {i : Nat} {t : OrdT} {a : Act} {w : World} {o : Oper} (ho : nth ops.toList i = some o) (hw : Region.wanted o (yielded ops a.tmps) = true)
    (h : ∀ K : Act → World → Prop, (∀ a' w', ((N i = true → S w') ∧ wpT P ops Q S N t a' w') → K a' w') → o.wp P a w K Q) : wpT P ops Q S N (.act i t) a w := op_act ho hw h
theorem tree_fork {i j : Nat} {t u : OrdT} {a : Act} {w : World} {o o' : Oper} (ho : nth ops.toList i = some o) (hw : Region.wanted o (yielded ops a.tmps) = true) (ho' : nth ops.toList j = some o') (hw' : Region.wanted o' (yielded ops a.tmps) = true)
    (h : ∀ K : Act → World → Prop, (∀ a' w', ((N i = true → S w') ∧ wpT P ops Q S N t a' w') → K a' w') → o.wp P a w K Q)
    (h' : ∀ K : Act → World → Prop, (∀ a' w', ((N j = true → S w') ∧ wpT P ops Q S N u a' w') → K a' w') → o'.wp P a w K Q) : wpT P ops Q S N (.fork i t j u) a w := ⟨op_act ho hw h, op_act ho' hw' h'⟩
theorem tree_fork3 {i j k : Nat} {t u v : OrdT} {a : Act} {w : World} {o o' o2 : Oper} (ho : nth ops.toList i = some o) (hw : Region.wanted o (yielded ops a.tmps) = true) (ho' : nth ops.toList j = some o') (hw' : Region.wanted o' (yielded ops a.tmps) = true) (ho2 : nth ops.toList k = some o2) (hw2 : Region.wanted o2 (yielded ops a.tmps) = true)
    (h : ∀ K : Act → World → Prop, (∀ a' w', ((N i = true → S w') ∧ wpT P ops Q S N t a' w') → K a' w') → o.wp P a w K Q)
    (h' : ∀ K : Act → World → Prop, (∀ a' w', ((N j = true → S w') ∧ wpT P ops Q S N u a' w') → K a' w') → o'.wp P a w K Q)
    (h2 : ∀ K : Act → World → Prop, (∀ a' w', ((N k = true → S w') ∧ wpT P ops Q S N v a' w') → K a' w') → o2.wp P a w K Q) : wpT P ops Q S N (.fork3 i t j u k v) a w := ⟨op_act ho hw h, op_act ho' hw' h', op_act ho2 hw2 h2⟩
end
end Go.Proofs.YtgiegkacilfofabDoor
