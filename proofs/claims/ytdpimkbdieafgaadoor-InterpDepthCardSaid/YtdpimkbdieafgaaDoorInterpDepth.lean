/- InterpDepth: the walk. -/
import Derived.Test.YtdpimkbdieafgaaDoorIntDe
import Derived.Test.YtdpimkbdieafgaaDoorInterpBounds
namespace Go.Proofs.YtdpimkbdieafgaaDoor
set_option linter.unusedVariables false
set_option linter.unusedSimpArgs false
open Go.RowKit

set_option maxHeartbeats 8000000 in
set_option maxRecDepth 100000 in
theorem interpDepth_walk (W : World) (n0 : Int) (hL : SortsIs W) (wn : (Lit.int .i64 n0).wf = true) :
    Calls Tryd.prog 7 #[.int .i64 n0] W fun e w' => e = .returned (.bool true) ∧ Below W.heap.size W w' := by
  obtain ⟨m, hm⟩ : ∃ m, bits .and .i64 n0 65535 = m := ⟨_, rfl⟩
  have hm0 : 0 ≤ m ∧ m ≤ 65535 := by rw [← hm, and_mask16]; omega
  obtain ⟨hm0, hm1⟩ := hm0
  obtain ⟨N, hN⟩ : ∃ N : Nat, m % 81 = (N : Int) := ⟨(m % 81).toNat, by omega⟩
  have hN2 : N ≤ 80 := by omega
  have CS := Lib.hid (shown_any hL)
  have HL := Lib.hid hL
  clear hL wn
  go_enter Tryd.func7, Tryd.ntmps7
  go_wp2_with fail
  refine CS.out.mono ?_; rintro e w1 ⟨rfl, hb1⟩
  have HB1 := Lib.hid hb1
  clear CS hb1
  go_upto_region 6 with fail
  rw [hN]
  obtain ⟨wa, hwa⟩ : ∃ z, z = w1.alloc (.cells #[.int .i64 2, .int .i64 0, .int .i64 0, .int .i64 16, .int .i64 7, .int .i64 0, .int .i64 2, .int .i64 0, .int .i64 0, .int .i64 1, .int .i64 0, .int .i64 1, .int .i64 7, .int .i64 0, .int .i64 0, .int .i64 17, .int .i64 1, .int .i64 0, .int .i64 18, .int .i64 0, .int .i64 0, .int .i64 1, .int .i64 0, .int .i64 5, .int .i64 18, .int .i64 0, .int .i64 0] 44) := ⟨_, rfl⟩
  obtain ⟨G, hG⟩ : ∃ z, z = w1.heap.size := ⟨_, rfl⟩
  obtain ⟨wb, hwb⟩ : ∃ z, z = wa.alloc (.cells #[.int .i64 1, .int .i64 0, .int .i64 (N : Int), .int .i64 17, .int .i64 1, .int .i64 0, .int .i64 18, .int .i64 0, .int .i64 0] 44) := ⟨_, rfl⟩
  obtain ⟨G2, hG2⟩ : ∃ z, z = G + 1 := ⟨_, rfl⟩
  obtain ⟨wc, hwc⟩ : ∃ z, z = wb.alloc (.cells #[.string ⟨#[]⟩, .int .i64 0, .int .i64 0, .int .i64 0, .slice (some ⟨G2, 0, none⟩) 3 3, .string ⟨#[102]⟩, .int .i64 1, .int .i64 1, .int .i64 0, .slice (some ⟨G, 0, none⟩) 9 9] 46) := ⟨_, rfl⟩
  obtain ⟨P, hP⟩ : ∃ z, z = G + 1 + 1 := ⟨_, rfl⟩
  obtain ⟨w0, hw0⟩ : ∃ z, z = wc.alloc (.cells #[.slice (some ⟨P, 0, none⟩) 2 2] 24) := ⟨_, rfl⟩
  obtain ⟨Q, hQ⟩ : ∃ z, z = G + 1 + 1 + 1 := ⟨_, rfl⟩
  rw [← hG, ← hwa, ← hQ, ← hP, ← hG2, ← hwb, ← hwc, ← hw0]
  have sa : wa.heap.size = G + 1 := by rw [hwa, hG]; show (w1.heap.push _).size = _; exact Array.size_push _
  have sb : wb.heap.size = G + 1 + 1 := by rw [hwb]; show (wa.heap.push _).size = _; rw [Array.size_push, sa]
  have sc : wc.heap.size = G + 1 + 1 + 1 := by rw [hwc]; show (wb.heap.push _).size = _; rw [Array.size_push, sb]
  have ca : Chg (fun _ => False) w1 wa := by rw [hwa]; exact (Chg.refl _ _).alloc _
  have cb : Chg (fun _ => False) wa wb := by rw [hwb]; exact (Chg.refl _ _).alloc _
  have cc : Chg (fun _ => False) wb wc := by rw [hwc]; exact (Chg.refl _ _).alloc _
  have c0 : Chg (fun _ => False) wc w0 := by rw [hw0]; exact (Chg.refl _ _).alloc _
  have xG : w0.heap[G]? = some (.cells #[.int .i64 2, .int .i64 0, .int .i64 0, .int .i64 16, .int .i64 7, .int .i64 0, .int .i64 2, .int .i64 0, .int .i64 0, .int .i64 1, .int .i64 0, .int .i64 1, .int .i64 7, .int .i64 0, .int .i64 0, .int .i64 17, .int .i64 1, .int .i64 0, .int .i64 18, .int .i64 0, .int .i64 0, .int .i64 1, .int .i64 0, .int .i64 5, .int .i64 18, .int .i64 0, .int .i64 0] 44 (0, 0)) := ((cb.then cc).then c0).heap (by rw [hwa]; exact heap_new' hG.symm) (fun x => x)
  have xG2 : w0.heap[G2]? = some (.cells #[.int .i64 1, .int .i64 0, .int .i64 (N : Int), .int .i64 17, .int .i64 1, .int .i64 0, .int .i64 18, .int .i64 0, .int .i64 0] 44 (0, 0)) := (cc.then c0).heap (by rw [hwb]; exact heap_new' (by rw [sa, hG2])) (fun x => x)
  have xP : w0.heap[P]? = some (.cells #[.string ⟨#[]⟩, .int .i64 0, .int .i64 0, .int .i64 0, .slice (some ⟨G2, 0, none⟩) 3 3, .string ⟨#[102]⟩, .int .i64 1, .int .i64 1, .int .i64 0, .slice (some ⟨G, 0, none⟩) 9 9] 46 (0, 0)) := c0.heap (by rw [hwc]; exact heap_new' (by rw [sb, hP])) (fun x => x)
  have xQ : w0.heap[Q]? = some (.cells #[.slice (some ⟨P, 0, none⟩) 2 2] 24 (0, 0)) := by rw [hw0]; exact heap_new' (by rw [sc, hQ])
  have b0 : Below W.heap.size W w0 := bel_trans HB1.out ((((ca.then cb).then cc).then c0).below (fun k h => h.elim) (Nat.le_refl _))
  have hsF : Src w0 (.slice (some ⟨G, 0, none⟩) 9 9) 9 (insCells deL) := src_block (l := deL) rfl (by rw [xG]; rfl) (by simp [maxLen])
  have hsM : Src w0 (.slice (some ⟨G2, 0, none⟩) 3 3) 3 (insCells (deM (N : Int))) := src_block (l := deM (N : Int)) rfl (by rw [xG2]; rfl) (by simp [maxLen])
  have hfs : FnsIs w0 (.slice (some ⟨P, 0, none⟩) 2 2) (deF (N : Int)) := by
    refine .inr ⟨P, 0, 2, rfl, lt_of_heap xP, Nat.le_refl _, by simp [maxLen], fun j f hf => ?_⟩
    have hj : j = 0 ∨ j = 1 := by have := (List.getElem?_eq_some_iff.1 hf).1; simp [deF] at this; omega
    rcases hj with rfl | rfl
    · injection hf with hf
      subst hf
      exact ⟨_, _, ⟨cell_of_block xP 0, cell_of_block xP 1, cell_of_block xP 2, cell_of_block xP 3, cell_of_block xP 4⟩, hsM⟩
    · injection hf with hf
      subst hf
      exact ⟨_, _, ⟨cell_of_block xP 5, cell_of_block xP 6, cell_of_block xP 7, cell_of_block xP 8, cell_of_block xP 9⟩, hsF⟩
  have hl : ∀ f ∈ deF (N : Int), f.l.length ≤ 1048576 := fun f hf => by
    have h : f = ⟨⟨#[]⟩, 0, 0, 0, deM (N : Int)⟩ ∨ f = ⟨⟨#[102]⟩, 1, 1, 0, deL⟩ := by simpa [deF] using hf
    rcases h with rfl | rfl
    · show (deM (N : Int)).length ≤ _; simp [deM]
    · show deL.length ≤ _; simp [deL]
  have CR := Lib.hid (run_any (w := w0) (A := some ⟨P, 0, none⟩) (c := 2) (fs := deF (N : Int)) (fuel := 100000) (quota := 0) (HL.out.keep b0) hfs (by simp [deF]) hl (numsrc_nil w0) (numsrc_nil w0) (by decide))
  rw [show (deF (N : Int)).length = 2 from rfl] at CR
  have y0 := cell_of_block xQ 0
  simp at y0
  have HB0 := Lib.hid b0
  clear hwa hG hwb hG2 hwc hP hw0 hQ sa sb sc ca cb cc c0 xG xG2 xP xQ b0 hsF hsM hfs hl hm hN hm0 hm1
  go_wp2_with fail
  refine CR.out.mono ?_; rintro e w6 ⟨v, o, rfl, ho, hro, hb6, _⟩
  obtain ⟨r1, r2⟩ := runO_depth hN2 hro
  obtain ⟨AP, cP, AK, cK, AC, cC, rfl, _, _, _⟩ := outIs_shape ho
  obtain ⟨pr, ke, cl, clk, res, err⟩ := o
  simp only at r1 r2 ⊢
  have HB6 := Lib.hid (bel_trans HB0.out hb6)
  clear CR ho hro hb6 y0
  by_cases h63 : 63 < N
  · obtain ⟨rfl, rfl⟩ := r1 h63
    clear r1 r2
    go_wp2_with fail
    go_ret
    exact ⟨rfl, HB6.out.alloc HB6.out.size _⟩
  · obtain ⟨rfl, rfl, rfl⟩ := r2 (by omega)
    clear r1 r2
    go_wp2_with fail
    go_ret
    have e : (18 + 17 * (N : Int) == 11 + 17 * (N : Int) + 5 + 2) = true := by rw [beq_iff_eq]; omega
    refine ⟨?_, HB6.out.alloc HB6.out.size _⟩
    show Ending.returned (.bool (18 + 17 * (N : Int) == 11 + 17 * (N : Int) + 5 + 2)) = _
    rw [e]
end Go.Proofs.YtdpimkbdieafgaaDoor
