/- interp: does, at whatever instruction but Call, Jump, Zero, Return. -/
import Derived.Test.YtdpimkbdieafgaaDoorIntF
namespace Go.Proofs.YtdpimkbdieafgaaDoor
set_option linter.unusedVariables false
set_option linter.unusedSimpArgs false
open Go.RowKit

theorem snoc_of {l : List Int} (h : 0 < l.length) : ∃ s y, l = s ++ [y] := by
  rcases List.eq_nil_or_concat l with rfl | ⟨s, y, rfl⟩
  · simp at h
  · exact ⟨s, y, by simp⟩
theorem snoc2_of {l : List Int} (h : 1 < l.length) : ∃ s x y, l = s ++ [x] ++ [y] := by
  obtain ⟨s, y, rfl⟩ := snoc_of (l := l) (by omega)
  obtain ⟨t, x, rfl⟩ := snoc_of (l := s) (by simp at h; omega)
  exact ⟨t, x, y, rfl⟩
theorem takes_two {op : Int} (h : 6 ≤ op ∧ op ≤ 14) : takesv op = 2 := by
  have h : op = 6 ∨ op = 7 ∨ op = 8 ∨ op = 9 ∨ op = 10 ∨ op = 11 ∨ op = 12 ∨ op = 13 ∨ op = 14 := by omega
  rcases h with rfl | rfl | rfl | rfl | rfl | rfl | rfl | rfl | rfl <;> rfl
theorem doesv_op2 (op a z : Int) (f : Fr) (g : GS) (s : List Int) (x y : Int) (hf : f.stack = s ++ [x] ++ [y]) (h : 6 ≤ op ∧ op ≤ 14) :
    doesv ⟨op, a, z⟩ f g = if (doV (op + 2) x y).2 = true then (0, ⟨f.fn, f.at_, f.vars, f.arrs, s ++ [(doV (op + 2) x y).1]⟩, g) else (7, f, g) := by
  obtain ⟨fn, at_, vars, arrs, stack⟩ := f
  simp only at hf
  subst hf
  have e1 : (s ++ [x] ++ [y]).dropLast = s ++ [x] := List.dropLast_concat
  have e2 : (s ++ [x]).dropLast = s := List.dropLast_concat
  unfold doesv
  simp only [e1, e2, top_snoc]
  rw [if_neg (by omega), if_neg (by omega), if_neg (by omega), if_neg (by omega), if_neg (by omega), if_neg (by omega), if_neg (by omega), if_neg (by omega), if_neg (by omega), if_neg (by omega), if_pos (takes_two h)]
theorem doesv_op1 (op a z : Int) (f : Fr) (g : GS) (s : List Int) (x : Int) (hf : f.stack = s ++ [x]) (h : op = 4 ∨ op = 5) :
    doesv ⟨op, a, z⟩ f g = if (doV (op + 2) x 0).2 = true then (0, ⟨f.fn, f.at_, f.vars, f.arrs, s ++ [(doV (op + 2) x 0).1]⟩, g) else (7, f, g) := by
  obtain ⟨fn, at_, vars, arrs, stack⟩ := f
  simp only at hf
  subst hf
  have e1 : (s ++ [x]).dropLast = s := List.dropLast_concat
  unfold doesv
  simp only [e1, top_snoc]
  have ht : takesv op = 1 := by rcases h with rfl | rfl <;> rfl
  rw [if_neg (by omega), if_neg (by omega), if_neg (by omega), if_neg (by omega), if_neg (by omega), if_neg (by omega), if_neg (by omega), if_neg (by omega), if_neg (by omega), if_neg (by omega), if_neg (by omega)]

theorem does_any {W0 w : World} {X Y : Nat → Prop} {m : Nat} {V : Value} {d : Nat} {g : GS} {F : Nat} {f : Fr} (h : Ms W0 w X Y m V d g F f.vars f.arrs f.stack) (hs : SortsIs W0) {k : Nat} {fn : FnR} (i : InsR) (hok : opOk k fn i = true)
    (hv : (f.vars.length : Int) = fn.vs) (ha : (f.arrs.length : Int) = fn.ar) (hv64 : fn.vs ≤ 64) (ha64 : fn.ar ≤ 64) (ht : takesv i.op ≤ (f.stack.length : Int)) (hnc : i.op ≠ 15 ∧ i.op ≠ 16 ∧ i.op ≠ 17 ∧ i.op ≠ 18)
    (hst : f.stack.length ≤ 1048576) (hp : g.pr.length ≤ 1048576) (hk : g.ke.length ≤ 1048576) (hc : g.cl.length ≤ 1048576) :
    Calls Tryd.prog 62 #[.pointer (some ⟨m, 0, none⟩), .pointer (some ⟨F, 0, none⟩), i.agg] w (DoesP W0 w X Y m V d F i f g) := by
  have hkn := opOk_known hok
  obtain ⟨op, a, nn⟩ := i
  simp only at ht hnc hkn
  unfold InsR.agg
  simp only
  have hcs : op = 1 ∨ op = 2 ∨ op = 3 ∨ (op = 4 ∨ op = 5) ∨ (6 ≤ op ∧ op ≤ 14) ∨ op = 19 ∨ op = 20 ∨ op = 21 ∨ op = 22 ∨ op = 23 ∨ op = 24 ∨ op = 25 := by omega
  rcases hcs with rfl | rfl | rfl | ho | ho | rfl | rfl | rfl | rfl | rfl | rfl | rfl
  · exact does_push h a nn (by omega)
  · unfold opOk at hok
    simp at hok
    obtain ⟨j, rfl⟩ : ∃ j : Nat, a = (j : Int) := ⟨a.toNat, by omega⟩
    exact does_load h j nn (by omega) (by omega) (by omega)
  · unfold opOk at hok
    simp at hok
    obtain ⟨j, rfl⟩ : ∃ j : Nat, a = (j : Int) := ⟨a.toNat, by omega⟩
    have ht : (1 : Int) ≤ (f.stack.length : Int) := ht
    obtain ⟨s, y, e⟩ := snoc_of (l := f.stack) (by omega)
    exact does_store h j nn s y e (by omega) (by omega) (by omega)
  · have ht1 : takesv op = 1 := by rcases ho with rfl | rfl <;> rfl
    obtain ⟨s, x, e⟩ := snoc_of (l := f.stack) (by omega)
    have hsl : s.length ≤ 1048576 := by have := congrArg List.length e; simp at this; omega
    refine does_op h op nn a (by omega) (fun w0 hg hm => ⟨doV (op + 2) x 0, s, ?_, doesv_op1 op a nn f g s x e ho⟩)
    rw [e] at hm
    exact reckon1 x hm hs op ho hsl
  · rw [takes_two ho] at ht
    obtain ⟨s, x, y, e⟩ := snoc2_of (l := f.stack) (by omega)
    have hsl : s.length ≤ 1048576 := by have := congrArg List.length e; simp at this; omega
    refine does_op h op nn a (by omega) (fun w0 hg hm => ⟨doV (op + 2) x y, s, ?_, doesv_op2 op a nn f g s x y e ho⟩)
    rw [e] at hm
    exact reckon2 x y hm hs op ho hsl
  · have ht : (1 : Int) ≤ (f.stack.length : Int) := ht
    obtain ⟨s, y, e⟩ := snoc_of (l := f.stack) (by omega)
    exact does_print h a nn s y e (by omega) (by omega)
  · have ht : (1 : Int) ≤ (f.stack.length : Int) := ht
    obtain ⟨s, y, e⟩ := snoc_of (l := f.stack) (by omega)
    exact does_keep h a nn s y e (by omega) (by omega)
  · unfold opOk at hok
    simp at hok
    obtain ⟨j, rfl⟩ : ∃ j : Nat, a = (j : Int) := ⟨a.toNat, by omega⟩
    rcases hok.2 with rfl | rfl
    · exact does_input0 h j (by omega) (by omega)
    · exact does_input1 h j (by omega) (by omega)
  · unfold opOk at hok
    simp at hok
    obtain ⟨j, rfl⟩ : ∃ j : Nat, a = (j : Int) := ⟨a.toNat, by omega⟩
    exact does_arr h 22 nn j (.inl rfl) (fun w0 hg hm => arr_make hm j nn (by omega) (by omega))
  · unfold opOk at hok
    simp at hok
    obtain ⟨j, rfl⟩ : ∃ j : Nat, a = (j : Int) := ⟨a.toNat, by omega⟩
    have ht : (1 : Int) ≤ (f.stack.length : Int) := ht
    obtain ⟨s, y, e⟩ := snoc_of (l := f.stack) (by omega)
    exact does_arr h 23 nn j (.inr (.inl rfl)) (fun w0 hg hm => arr_get hm j nn s y e (by omega) (by omega) (by omega))
  · unfold opOk at hok
    simp at hok
    obtain ⟨j, rfl⟩ : ∃ j : Nat, a = (j : Int) := ⟨a.toNat, by omega⟩
    have ht : (2 : Int) ≤ (f.stack.length : Int) := ht
    obtain ⟨s, x, y, e⟩ := snoc2_of (l := f.stack) (by omega)
    exact does_arr h 24 nn j (.inr (.inr rfl)) (fun w0 hg hm => arr_set hm j nn s x y e (by omega) (by omega) (by omega))
  · exact does_clock h a nn (by omega) (by omega)
end Go.Proofs.YtdpimkbdieafgaaDoor
