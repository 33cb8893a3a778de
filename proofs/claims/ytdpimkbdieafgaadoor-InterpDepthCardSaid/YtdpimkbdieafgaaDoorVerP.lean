/- verify: the plain law of a function's looks: what is found right has a depth at each place that is reached; what is not has none. -/
import Derived.Test.YtdpimkbdieafgaaDoorVerC
namespace Go.Proofs.YtdpimkbdieafgaaDoor
set_option linter.unusedVariables false
set_option linter.unusedSimpArgs false
open Go.RowKit

def insAt (f : FnR) (p : Int) : InsR := f.l.getD p.toNat noIns
/-- D tells a depth of each place that is reached -/
def WTy (fs : List FnR) (f : FnR) (D : Int → Option Int) : Prop :=
  D 0 = some 0 ∧ ∀ p dp, D p = some dp → (0 ≤ p ∧ p < (f.l.length : Int)) ∧ okAt fs f (insAt f p) dp = true ∧ ∀ q ∈ succs (insAt f p) p, D q = some (behind fs (insAt f p) dp)
/-- each is reached from one ahead of it -/
def Gen (fs : List FnR) (f : FnR) (V : List (Int × Int)) : Prop :=
  ∀ (i : Nat) x, V[i]? = some x → x = (0, 0) ∨ ∃ (j : Nat) (y : Int × Int), j < i ∧ V[j]? = some y ∧ okAt fs f (insAt f y.1) y.2 = true ∧ x.1 ∈ succs (insAt f y.1) y.1 ∧ x.2 = behind fs (insAt f y.1) y.2
def STy (fs : List FnR) (f : FnR) : Prop := ∃ V : List (Int × Int), WTy fs f (lookv V) ∧ Gen fs f V
structure Inv (fs : List FnR) (f : FnR) (V : List (Int × Int)) (r : Nat) : Prop where
  le : r ≤ V.length
  range : ∀ x ∈ V, 0 ≤ x.1 ∧ x.1 < (f.l.length : Int)
  self : ∀ x ∈ V, lookv V x.1 = some x.2
  root : lookv V 0 = some 0
  done : ∀ (j : Nat) x, j < r → V[j]? = some x → okAt fs f (insAt f x.1) x.2 = true ∧ ∀ q ∈ succs (insAt f x.1) x.1, lookv V q = some (behind fs (insAt f x.1) x.2)
  gen : Gen fs f V
  weak : ∀ D, WTy fs f D → ∀ x ∈ V, D x.1 = some x.2

/-- what a row of looks leaves -/
structure Grown (n : Nat) (V V' : List (Int × Int)) (ok : Int → Int → Prop) : Prop where
  add : ∃ E, V' = V ++ E ∧ ∀ x ∈ E, ok x.1 x.2
  keep : ∀ q e, lookv V q = some e → lookv V' q = some e
  range : (∀ x ∈ V, 0 ≤ x.1 ∧ x.1 < (n : Int)) → ∀ x ∈ V', 0 ≤ x.1 ∧ x.1 < (n : Int)
  self : (∀ x ∈ V, lookv V x.1 = some x.2) → ∀ x ∈ V', lookv V' x.1 = some x.2
theorem Grown.refl (n : Nat) (V : List (Int × Int)) (ok : Int → Int → Prop) : Grown n V V ok := ⟨⟨[], by simp, by simp⟩, fun _ _ h => h, fun h => h, fun h => h⟩
theorem Grown.trans {n : Nat} {V V' V'' : List (Int × Int)} {ok : Int → Int → Prop} (h : Grown n V V' ok) (k : Grown n V' V'' ok) : Grown n V V'' ok := by
  obtain ⟨E, h1, h2⟩ := h.add
  obtain ⟨F, k1, k2⟩ := k.add
  refine ⟨⟨E ++ F, by rw [k1, h1, List.append_assoc], fun x hx => ?_⟩, fun q e hq => k.keep _ _ (h.keep _ _ hq), fun r => k.range (h.range r), fun r => k.self (h.self r)⟩
  rcases List.mem_append.1 hx with hx | hx
  · exact h2 x hx
  · exact k2 x hx
theorem reachv_grown (n : Nat) (V : List (Int × Int)) (p d : Int) (ok : Int → Int → Prop) (hok : ok p d) : Grown n V (reachv n V p d).2 ok := by
  unfold reachv
  by_cases hp : 0 ≤ p ∧ p < (n : Int)
  · rw [if_pos hp]
    cases hv : lookv V p with
    | some q => exact Grown.refl _ _ _
    | none =>
      refine ⟨⟨[(p, d)], rfl, fun x hx => by rw [List.mem_singleton.1 hx]; exact hok⟩, fun q e hq => ?_, fun h x hx => ?_, fun h x hx => ?_⟩
      · rw [lookv_snoc V p d q hv]
        by_cases e1 : q = p
        · rw [e1, hv] at hq; cases hq
        · rw [if_neg e1]; exact hq
      · rcases List.mem_append.1 hx with hx | hx
        · exact h x hx
        · rw [List.mem_singleton.1 hx]; exact hp
      · rw [lookv_snoc V p d x.1 hv]
        rcases List.mem_append.1 hx with hx | hx
        · rw [if_neg (lookv_none hv x hx)]; exact h x hx
        · rw [List.mem_singleton.1 hx]; simp
  · rw [if_neg hp]; exact Grown.refl _ _ _
theorem reachv_true {n : Nat} {V : List (Int × Int)} {p d : Int} (h : (reachv n V p d).1 = true) : lookv (reachv n V p d).2 p = some d := by
  unfold reachv at h ⊢
  by_cases hp : 0 ≤ p ∧ p < (n : Int)
  · rw [if_pos hp] at h ⊢
    cases hv : lookv V p with
    | some q =>
      rw [hv] at h
      simp only [decide_eq_true_eq] at h
      simp only [hv, h]
    | none =>
      simp only
      rw [lookv_snoc V p d p hv, if_pos rfl]
  · rw [if_neg hp] at h; cases h
theorem reachv_false {n : Nat} {V : List (Int × Int)} {p d : Int} (h : (reachv n V p d).1 = false) (D : Int → Option Int) (hD : ∀ x ∈ V, D x.1 = some x.2) (hr : ∀ q e, D q = some e → 0 ≤ q ∧ q < (n : Int)) : D p ≠ some d := by
  intro e
  unfold reachv at h
  rw [if_pos (hr _ _ e)] at h
  cases hv : lookv V p with
  | some q =>
    rw [hv] at h
    simp only [decide_eq_false_iff_not] at h
    have := hD _ (lookv_some hv)
    simp only at this
    rw [e] at this
    injection this with this
    exact h this.symm
  | none => rw [hv] at h; simp at h
theorem reachAll_grown (n : Nat) (d : Int) (ok : Int → Int → Prop) : ∀ (qs : List Int) (V : List (Int × Int)), (∀ q ∈ qs, ok q d) → Grown n V (reachAll n V qs d).2 ok
  | [], V, _ => by unfold reachAll; exact Grown.refl _ _ _
  | q :: qs, V, h => by
    unfold reachAll
    have h1 := reachv_grown n V q d ok (h q (by simp))
    by_cases hb : (reachv n V q d).1 = true
    · rw [if_pos hb]
      exact h1.trans (reachAll_grown n d ok qs _ (fun q hq => h q (by simp [hq])))
    · rw [if_neg hb]; exact h1
theorem reachAll_true (n : Nat) (d : Int) : ∀ (qs : List Int) (V : List (Int × Int)), (reachAll n V qs d).1 = true → ∀ q ∈ qs, lookv (reachAll n V qs d).2 q = some d
  | [], V, _ => by simp
  | q :: qs, V, h => by
    intro x hx
    unfold reachAll at h ⊢
    by_cases hb : (reachv n V q d).1 = true
    · rw [if_pos hb] at h ⊢
      rcases List.mem_cons.1 hx with rfl | hx
      · exact (reachAll_grown n d (fun _ _ => True) qs _ (fun _ _ => trivial)).keep _ _ (reachv_true hb)
      · exact reachAll_true n d qs _ h x hx
    · rw [if_neg hb] at h; cases h
theorem reachAll_weak (n : Nat) (d : Int) (D : Int → Option Int) (hr : ∀ q e, D q = some e → 0 ≤ q ∧ q < (n : Int)) : ∀ (qs : List Int) (V : List (Int × Int)), (∀ x ∈ V, D x.1 = some x.2) → (∀ q ∈ qs, D q = some d) →
    (reachAll n V qs d).1 = true ∧ ∀ x ∈ (reachAll n V qs d).2, D x.1 = some x.2
  | [], V, h, _ => by unfold reachAll; exact ⟨rfl, h⟩
  | q :: qs, V, h, hq => by
    unfold reachAll
    have hb : (reachv n V q d).1 = true := by
      cases e : (reachv n V q d).1 with
      | true => rfl
      | false => exact absurd (hq q (by simp)) (reachv_false e D h hr)
    rw [if_pos hb]
    refine reachAll_weak n d D hr qs _ (fun x hx => ?_) (fun q' h' => hq q' (by simp [h']))
    obtain ⟨E, e, hE⟩ := (reachv_grown n V q d (fun a b => a = q ∧ b = d) ⟨rfl, rfl⟩).add
    rw [e] at hx
    rcases List.mem_append.1 hx with hx | hx
    · exact h x hx
    · obtain ⟨h1, h2⟩ := hE x hx
      rw [h1, h2]
      exact hq q (by simp)

theorem WTy.range {fs : List FnR} {f : FnR} {D : Int → Option Int} (h : WTy fs f D) : ∀ q e, D q = some e → 0 ≤ q ∧ q < (f.l.length : Int) := fun q e he => (h.2 q e he).1
/-- behind the first look -/
theorem Inv.start {fs : List FnR} {f : FnR} (h : (reachv f.l.length [] 0 0).1 = true) : Inv fs f (reachv f.l.length [] 0 0).2 0 := by
  have hg := reachv_grown f.l.length [] 0 0 (fun a b => a = 0 ∧ b = 0) ⟨rfl, rfl⟩
  obtain ⟨E, e, hE⟩ := hg.add
  rw [List.nil_append] at e
  refine ⟨Nat.zero_le _, hg.range (by simp), hg.self (by simp), reachv_true h, fun j x hj _ => by omega, fun i x hx => .inl ?_, fun D hD x hx => ?_⟩
  · rw [e] at hx
    obtain ⟨h1, h2⟩ := hE x (List.mem_of_getElem? hx)
    exact Prod.ext h1 h2
  · rw [e] at hx
    obtain ⟨h1, h2⟩ := hE x hx
    rw [h1, h2]
    exact hD.1
theorem start_false {fs : List FnR} {f : FnR} (h : (reachv f.l.length [] 0 0).1 = false) (D : Int → Option Int) : ¬ WTy fs f D := fun hD => reachv_false h D (by simp) hD.range hD.1
/-- a place -/
theorem Inv.step {fs : List FnR} {f : FnR} {V : List (Int × Int)} {r : Nat} (h : Inv fs f V r) {x : Int × Int} (hx : V[r]? = some x) (ht : (placev fs f V (insAt f x.1) x.1 x.2).1 = true) : Inv fs f (placev fs f V (insAt f x.1) x.1 x.2).2 (r + 1) := by
  unfold placev at ht ⊢
  by_cases ho : okAt fs f (insAt f x.1) x.2 = true
  · rw [if_pos ho] at ht ⊢
    have hg := reachAll_grown f.l.length (behind fs (insAt f x.1) x.2) (fun a b => a ∈ succs (insAt f x.1) x.1 ∧ b = behind fs (insAt f x.1) x.2) (succs (insAt f x.1) x.1) V (fun q hq => ⟨hq, rfl⟩)
    have hall := reachAll_true f.l.length (behind fs (insAt f x.1) x.2) (succs (insAt f x.1) x.1) V ht
    obtain ⟨E, e, hE⟩ := hg.add
    have hr : r < V.length := (List.getElem?_eq_some_iff.1 hx).1
    refine ⟨?_, hg.range h.range, hg.self h.self, hg.keep _ _ h.root, fun j y hj hy => ?_, fun i y hy => ?_, fun D hD => ?_⟩
    · rw [e, List.length_append]; omega
    · rw [e, List.getElem?_append_left (by omega)] at hy
      by_cases hjr : j < r
      · obtain ⟨a1, a2⟩ := h.done j y hjr hy
        exact ⟨a1, fun q hq => hg.keep _ _ (a2 q hq)⟩
      · have : j = r := by omega
        subst this
        rw [hx] at hy
        injection hy with hy
        subst hy
        exact ⟨ho, hall⟩
    · rw [e] at hy ⊢
      by_cases hi : i < V.length
      · rw [List.getElem?_append_left hi] at hy
        rcases h.gen i y hy with h1 | ⟨j, z, hj, hz, h2⟩
        · exact .inl h1
        · exact .inr ⟨j, z, hj, by rw [List.getElem?_append_left (by omega)]; exact hz, h2⟩
      · rw [List.getElem?_append_right (by omega)] at hy
        obtain ⟨h1, h2⟩ := hE y (List.mem_of_getElem? hy)
        exact .inr ⟨r, x, by omega, by rw [List.getElem?_append_left hr]; exact hx, ho, h1, h2⟩
    · have hxm := h.weak D hD x (List.mem_of_getElem? hx)
      exact (reachAll_weak f.l.length _ D hD.range _ V (h.weak D hD) ((hD.2 _ _ hxm).2.2)).2
  · rw [if_neg ho] at ht; cases ht
theorem step_false {fs : List FnR} {f : FnR} {V : List (Int × Int)} {r : Nat} (h : Inv fs f V r) {x : Int × Int} (hx : V[r]? = some x) (ht : (placev fs f V (insAt f x.1) x.1 x.2).1 = false) (D : Int → Option Int) : ¬ WTy fs f D := fun hD => by
  have hxm := h.weak D hD x (List.mem_of_getElem? hx)
  obtain ⟨_, h2, h3⟩ := hD.2 _ _ hxm
  unfold placev at ht
  rw [if_pos h2, (reachAll_weak f.l.length _ D hD.range _ V (h.weak D hD) h3).1] at ht
  cases ht
theorem Inv.all {fs : List FnR} {f : FnR} {V : List (Int × Int)} (h : Inv fs f V V.length) : STy fs f := by
  refine ⟨V, ⟨h.root, fun p dp hp => ?_⟩, h.gen⟩
  have hm := lookv_some hp
  obtain ⟨j, hj, e⟩ := List.getElem_of_mem hm
  obtain ⟨h1, h2⟩ := h.done j (p, dp) hj (by rw [List.getElem?_eq_getElem hj, e])
  exact ⟨h.range _ hm, h1, h2⟩
end Go.Proofs.YtdpimkbdieafgaaDoor
