/- Two heaps that have nothing to do with each other, nor with some blocks X. -/
import Derived.Test.YtjoibhaohmifcaaHeapShown
namespace Go.Proofs.Ytjoibhaohmifcaa
set_option linter.unusedVariables false
set_option linter.unusedSimpArgs false
open Go.RowKit Go.Deep

structure Two (w0 w : World) (X : Nat → Prop) (ga gb : Nat) (q : Int) (xa xb : List (List Int)) : Prop where
  bel : Below w0.heap.size w0 w
  xlt : ∀ k, X k → k < w.heap.size
  sets : ∃ A B : Nat → Prop, HeapIs w A ga q xa ∧ HeapIs w B gb q xb ∧ (∀ k, A k → ¬ B k) ∧ (∀ k, A k → w0.heap.size ≤ k ∧ ¬ X k) ∧ (∀ k, B k → w0.heap.size ≤ k ∧ ¬ X k)

theorem Two.symm {w0 w : World} {X : Nat → Prop} {ga gb : Nat} {q : Int} {xa xb : List (List Int)} (h : Two w0 w X ga gb q xa xb) : Two w0 w X gb ga q xb xa := by
  obtain ⟨hb, hx, A, B, h1, h2, h3, h4, h5⟩ := h
  exact ⟨hb, hx, B, A, h2, h1, fun k hk hn => h3 k hn hk, h5, h4⟩
theorem Two.of_HB {w0 w w1 : World} {ga gb : Nat} {q : Int} {xa : List (List Int)} (h : HB w0 w ga q xa) (h1 : HeapIs w1 (fun k => w.heap.size ≤ k) gb q []) (hc : Chg (fun _ => False) w w1) : Two w0 w1 (fun _ => False) ga gb q xa [] :=
  ⟨h.bel.trans (hc.to_below.mono h.bel.size), fun _ x => x.elim, fun k => w0.heap.size ≤ k ∧ k < w.heap.size, fun k => w.heap.size ≤ k, h.is.bound.kept hc (fun _ _ x => x), h1, fun k hk => by omega, fun k hk => ⟨hk.1, fun x => x⟩, fun k hk => ⟨Nat.le_trans h.bel.size hk, fun x => x⟩⟩
/-- something else is made; from then on it is none of the heaps' -/
theorem Two.chg {w0 w w' : World} {ga gb : Nat} {q : Int} {xa xb : List (List Int)} (h : Two w0 w (fun _ => False) ga gb q xa xb) (hc : Chg (fun _ => False) w w') (g : Nat) (hg : w.heap.size ≤ g) (hg2 : g < w'.heap.size) : Two w0 w' (fun k => k = g) ga gb q xa xb := by
  obtain ⟨hb, hx, A, B, h1, h2, h3, h4, h5⟩ := h
  exact ⟨hb.trans (hc.to_below.mono hb.size), fun k hk => by omega, _, _, h1.bound.kept hc (fun _ _ x => x), h2.bound.kept hc (fun _ _ x => x), fun k hk hn => h3 k hk.1 hn.1, fun k hk => ⟨(h4 k hk.1).1, by omega⟩, fun k hk => ⟨(h5 k hk.1).1, by omega⟩⟩
theorem Two.free {w0 w : World} {X : Nat → Prop} {ga gb : Nat} {q : Int} {xa xb : List (List Int)} (h : Two w0 w X ga gb q xa xb) : Two w0 w (fun _ => False) ga gb q xa xb := by
  obtain ⟨hb, hx, A, B, h1, h2, h3, h4, h5⟩ := h
  exact ⟨hb, fun _ x => x.elim, A, B, h1, h2, h3, fun k hk => ⟨(h4 k hk).1, fun x => x⟩, fun k hk => ⟨(h5 k hk).1, fun x => x⟩⟩
theorem Two.makeA {w0 w : World} {X : Nat → Prop} {ga gb : Nat} {q : Int} {xa xb : List (List Int)} (h : Two w0 w X ga gb q xa xb) (n : Int) (a b : Int) (yss : List (List Int)) (hv : makev q xa n = (a, b, yss)) :
    Calls Try.prog 11 #[.pointer (some ⟨ga, 0, none⟩), .int .i64 n] w fun e w' => e = .returned (.tuple #[.int .i64 a, .int .i64 b]) ∧ Two w0 w' X ga gb q yss xb ∧ Chg (fun k => w0.heap.size ≤ k ∧ ¬ X k) w w' := by
  obtain ⟨hb, hx, A, B, h1, h2, h3, h4, h5⟩ := h
  refine (make_at h1.bound n a b yss hv).mono ?_
  rintro e w' ⟨rfl, h6, hc⟩
  refine ⟨rfl, ⟨hb.trans (hc.below (fun k hk => (h4 k hk.1).1) hb.size), fun k hk => Nat.lt_of_lt_of_le (hx k hk) hc.size, _, _, h6, h2.bound.kept hc (fun k hk hn => h3 k hn.1 hk.1), ?_, ?_, fun k hk => h5 k hk.1⟩, hc.mono (fun k _ hk => h4 k hk.1)⟩
  · rintro k (hk | hk) hn
    · exact h3 k hk.1 hn.1
    · omega
  · rintro k (hk | hk)
    · exact h4 k hk.1
    · exact ⟨Nat.le_trans hb.size hk, fun hX => by have := hx k hX; omega⟩
theorem Two.makeB {w0 w : World} {X : Nat → Prop} {ga gb : Nat} {q : Int} {xa xb : List (List Int)} (h : Two w0 w X ga gb q xa xb) (n : Int) (a b : Int) (yss : List (List Int)) (hv : makev q xb n = (a, b, yss)) :
    Calls Try.prog 11 #[.pointer (some ⟨gb, 0, none⟩), .int .i64 n] w fun e w' => e = .returned (.tuple #[.int .i64 a, .int .i64 b]) ∧ Two w0 w' X ga gb q xa yss ∧ Chg (fun k => w0.heap.size ≤ k ∧ ¬ X k) w w' :=
  (h.symm.makeA n a b yss hv).mono fun e w' ⟨h1, h2, h3⟩ => ⟨h1, h2.symm, h3⟩
theorem Two.setA {w0 w : World} {X : Nat → Prop} {ga gb : Nat} {q : Int} {xa xb : List (List Int)} (h : Two w0 w X ga gb q xa xb) (id i y : Int) (b : Bool) (yss : List (List Int)) (hv : (cellv xa id i).isSome = b ∧ setv xa id i y = yss) :
    Calls Try.prog 13 #[.pointer (some ⟨ga, 0, none⟩), .int .i64 id, .int .i64 i, .int .i64 y] w fun e w' => e = .returned (.bool b) ∧ Two w0 w' X ga gb q yss xb ∧ Chg (fun k => w0.heap.size ≤ k ∧ ¬ X k) w w' := by
  obtain ⟨hb, hx, A, B, h1, h2, h3, h4, h5⟩ := h
  refine (set_at h1 id i y b yss hv).mono ?_
  rintro e w' ⟨rfl, h6, hc⟩
  exact ⟨rfl, ⟨hb.trans (hc.below (fun k hk => (h4 k hk).1) hb.size), fun k hk => Nat.lt_of_lt_of_le (hx k hk) hc.size, A, B, h6, h2.kept hc (fun k hk hn => h3 k hn hk), h3, h4, h5⟩, hc.mono (fun k _ hk => h4 k hk)⟩
theorem Two.setB {w0 w : World} {X : Nat → Prop} {ga gb : Nat} {q : Int} {xa xb : List (List Int)} (h : Two w0 w X ga gb q xa xb) (id i y : Int) (b : Bool) (yss : List (List Int)) (hv : (cellv xb id i).isSome = b ∧ setv xb id i y = yss) :
    Calls Try.prog 13 #[.pointer (some ⟨gb, 0, none⟩), .int .i64 id, .int .i64 i, .int .i64 y] w fun e w' => e = .returned (.bool b) ∧ Two w0 w' X ga gb q xa yss ∧ Chg (fun k => w0.heap.size ≤ k ∧ ¬ X k) w w' :=
  (h.symm.setA id i y b yss hv).mono fun e w' ⟨h1, h2, h3⟩ => ⟨h1, h2.symm, h3⟩
theorem Two.getA {w0 w : World} {X : Nat → Prop} {ga gb : Nat} {q : Int} {xa xb : List (List Int)} (h : Two w0 w X ga gb q xa xb) (id i : Int) (a : Int) (b : Bool) (hv : (cellv xa id i).getD 0 = a ∧ (cellv xa id i).isSome = b) :
    Calls Try.prog 15 #[.pointer (some ⟨ga, 0, none⟩), .int .i64 id, .int .i64 i] w fun e w' => e = .returned (.tuple #[.int .i64 a, .bool b]) ∧ w = w' := by
  obtain ⟨hb, hx, A, B, h1, _⟩ := h
  exact get_at h1 id i a b hv
theorem Two.lenA {w0 w : World} {X : Nat → Prop} {ga gb : Nat} {q : Int} {xa xb : List (List Int)} (h : Two w0 w X ga gb q xa xb) (id n : Int) (hv : (lenv xa id : Int) = n) :
    Calls Try.prog 19 #[.pointer (some ⟨ga, 0, none⟩), .int .i64 id] w fun e w' => e = .returned (.int .i64 n) ∧ w' = w := by
  obtain ⟨hb, hx, A, B, h1, _⟩ := h
  have := heap_len_any h1 id
  rw [hv] at this
  exact this.mono fun e w' ⟨a, b⟩ => ⟨a, b.symm⟩
theorem Two.usedA {w0 w : World} {X : Nat → Prop} {ga gb : Nat} {q : Int} {xa xb : List (List Int)} (h : Two w0 w X ga gb q xa xb) (n : Int) (hv : total xa = n) :
    Calls Try.prog 17 #[.pointer (some ⟨ga, 0, none⟩)] w fun e w' => e = .returned (.int .i64 n) ∧ w' = w := by
  obtain ⟨hb, hx, A, B, h1, _⟩ := h
  exact (used_at h1 n hv).mono fun e w' ⟨a, b⟩ => ⟨a, b.symm⟩
theorem setv_none {xss : List (List Int)} {id i : Int} (h : cellv xss id i = none) (y : Int) : setv xss id i y = xss := by
  unfold setv
  split
  · rename_i hp
    apply List.ext_getElem?
    intro t
    rw [List.getElem?_modify]
    split
    · rename_i e
      subst e
      unfold cellv at h
      rw [if_pos hp] at h
      cases hh : xss[id.toNat]? with
      | none => rfl
      | some xs =>
        rw [hh] at h
        have hv : xs[i.toNat]? = none := h
        show some (xs.set i.toNat y) = some xs
        rw [List.set_eq_of_length_le (List.getElem?_eq_none_iff.1 hv)]
    · simp
  · rfl
theorem HeapIs.of_heap {w w' : World} (e : w'.heap = w.heap) {S : Nat → Prop} {g : Nat} {q : Int} {xss : List (List Int)} (h : HeapIs w S g q xss) : HeapIs w' S g q xss := by
  obtain ⟨v, ars, F, fb, fo, fl, h, x⟩ := h
  exact ⟨v, ars, F, fb, fo, fl, h.of_heap e, x⟩
theorem Two.drewN {w0 w : World} {X : Nat → Prop} {ga gb : Nat} {q : Int} {xa xb : List (List Int)} (h : Two w0 w X ga gb q xa xb) (n : Nat) : Two w0 (w.drewN n) X ga gb q xa xb := by
  obtain ⟨hb, hx, A, B, h1, h2, h3⟩ := h
  exact ⟨⟨hb.os, hb.tape, hb.output, hb.size, hb.block⟩, hx, A, B, HeapIs.of_heap (w := w) (w' := w.drewN n) rfl h1, HeapIs.of_heap (w := w) (w' := w.drewN n) rfl h2, h3⟩
end Go.Proofs.Ytjoibhaohmifcaa
