/- SpecTells. -/
import Derived.Test.YtpjpndndpcebcaaDoorSpecOwn
import Derived.Test.YtpjpndndpcebcaaDoorRef17
namespace Go.Proofs.YtpjpndndpcebcaaDoor
set_option linter.unusedVariables false
set_option linter.unusedSimpArgs false
open Go.RowKit

set_option maxHeartbeats 8000000 in
set_option maxRecDepth 100000 in
theorem specTells_walk (W : World) (f : FnR) (cs : List Value) (k q : Int) (hL : SortsIs W) (hf : rdFn.K W f cs) (wk : (Lit.int .i64 k).wf = true) (wq : (Lit.int .i64 q).wf = true) :
    Calls Tryd.prog 3 #[.agg cs.toArray, .int .i64 k, .int .i64 q] W fun e w' => e = .returned (.bool true) ∧ Below W.heap.size W w' := by
  obtain ⟨nm, ps, vs, ar, l⟩ := f
  have hf : FnAt W ⟨nm, ps, vs, ar, l⟩ cs := hf
  obtain ⟨A, c, rfl, hB⟩ := hf.is
  simp only at hB
  simp only [List.toArray]
  obtain ⟨n, hn⟩ : ∃ n, n = l.length := ⟨_, rfl⟩
  rw [← hn]
  have hnc : n ≤ c := by have := hB.fits; omega
  have hnb : n * 24 ≤ 140737488351232 := by have := hB.bytes; omega
  have HN := Lib.hid hn
  have HB := Lib.hid hB
  have HQ64 := Lib.hid (in64_of wq)
  clear hf hn hB
  obtain ⟨m, hm⟩ : ∃ m : Nat, m = if n < 80 then n else 80 := ⟨_, rfl⟩
  have hmi : min (n : Int) 80 = (m : Int) := by rw [hm]; split <;> omega
  have hmn : m ≤ n := by rw [hm]; split <;> omega
  have hm80 : m ≤ 80 := by rw [hm]; split <;> omega
  clear hm
  obtain ⟨L, hLd⟩ : ∃ L, L = l.take m := ⟨_, rfl⟩
  have HLL : Hid (L.length = m) := Lib.hid (by rw [hLd, List.length_take]; have := HN.out; omega)
  have HFU : Hid (∀ x ∈ L, Full x) := Lib.hid (fun x hx => HB.out.full x (by rw [hLd] at hx; exact List.mem_of_mem_take hx))
  have HWF : Hid (∀ x ∈ L, WfI x) := Lib.hid (fun x hx => (HFU.out x hx).wf)
  have HSRC : Hid (∀ w', Below W.heap.size W w' → Src w' (.slice A m c) L.length (insCells L)) := Lib.hid (fun w' hb => by
    have h := (HB.out.keep hb).take m (by have := HN.out; omega)
    rw [← hLd] at h
    exact h)
  clear hLd
  obtain ⟨P, hP⟩ : ∃ P, P = W.heap.size := ⟨_, rfl⟩
  obtain ⟨w0, hw0⟩ : ∃ w0, w0 = W.alloc (.cells #[.string nm, .int .i64 ps, .int .i64 vs, .int .i64 ar, .slice A n c] 24) := ⟨_, rfl⟩
  have hb0 : Below W.heap.size W w0 := by rw [hw0]; exact (Below.refl _ _).alloc (Nat.le_refl _) _
  have HP0 : Hid (w0.heap[P]? = some (.cells #[.string nm, .int .i64 ps, .int .i64 vs, .int .i64 ar, .slice A n c] 24 (0, 0))) := Lib.hid (by rw [hw0]; exact heap_new' hP.symm)
  have CS := Lib.hid (shown_any (hL.keep hb0))
  have HB0 := Lib.hid hb0
  have HWE := Lib.hid (And.intro hP hw0)
  clear hP hw0 hb0 hL
  go_enter Tryd.func3, Tryd.ntmps3
  go_wp2_with fail
  rw [← HWE.out.2]
  refine CS.out.mono ?_; rintro e w1 ⟨rfl, hb1⟩
  rw [← HWE.out.1]
  have hp1 := (Below.chg hb1).heap HP0.out (fun x => x)
  have HB1 := Lib.hid (bel_trans HB0.out hb1)
  have HP1 := Lib.hid hp1
  have hPl : P < w1.heap.size := lt_of_heap hp1
  have c4 := cell_of_block hp1 4
  have f4 := frozen_of_block hp1 4
  simp at c4
  clear hb1 CS hp1
  go_upto_region 3 with fail
  obtain ⟨w3, hw3⟩ : ∃ w3, w3 = w1.setCell ⟨P, 4, none⟩ (.slice A m c) := ⟨_, rfl⟩
  have HP3 : Hid (w3.heap[P]? = some (.cells #[.string nm, .int .i64 ps, .int .i64 vs, .int .i64 ar, .slice A m c] 24 (0, 0))) := Lib.hid (by rw [hw3]; exact heap_set HP1.out 4 _)
  have HB3 : Hid (Below W.heap.size W w3) := Lib.hid (by
    rw [hw3]
    exact HB1.out.trans ((Chg.set_cell ⟨P, 4, none⟩ _).below (B := W.heap.size) (fun k hk => by rw [hk, HWE.out.1]; exact Nat.le_refl _) HB1.out.size))
  rw [← hw3]
  clear hw3 c4 f4
  have x0 := cell_of_block HP3.out 0
  have x1 := cell_of_block HP3.out 1
  have x2 := cell_of_block HP3.out 2
  have x3 := cell_of_block HP3.out 3
  have x4 := cell_of_block HP3.out 4
  simp at x0 x1 x2 x3 x4
  have C3 := Lib.hid (ref_any (w := w3) (V := .slice A m c) (l := L) nm ps vs ar (HSRC.out w3 HB3.out) (by rw [HLL.out]; omega))
  go_wp2_with fail
  refine C3.out.mono ?_; rintro e w4 ⟨V4, rfl, ho4, hn4, hb4⟩
  rw [HLL.out] at ho4
  obtain ⟨_, A4, c4, rfl⟩ := ownsRow_slice ho4
  have HB4 := Lib.hid (bel_trans HB3.out hb4)
  have HP4 := Lib.hid ((Below.chg hb4).heap HP3.out (fun x => x))
  have HO4 := Lib.hid ho4
  clear ho4 hn4 hb4 C3 x0 x1 x2 x3 x4
  go_upto_region 4 with fail
  obtain ⟨Q, hQ⟩ : ∃ Q, Q = w4.heap.size := ⟨_, rfl⟩
  obtain ⟨w5, hw5⟩ : ∃ w5, w5 = w4.alloc (.cells #[.string nm, .int .i64 ps, .int .i64 vs, .int .i64 ar, .slice A4 m c4] 28) := ⟨_, rfl⟩
  rw [← hw5, ← hQ]
  have h45 : Below w4.heap.size w4 w5 := by rw [hw5]; exact (Below.refl _ _).alloc (Nat.le_refl _) _
  have HB5 := Lib.hid (bel_trans HB4.out h45)
  have HP5 := Lib.hid ((Below.chg h45).heap HP4.out (fun x => x))
  have HQ5 : Hid (w5.heap[Q]? = some (.cells #[.string nm, .int .i64 ps, .int .i64 vs, .int .i64 ar, .slice A4 m c4] 28 (0, 0))) := Lib.hid (by rw [hw5]; exact heap_new' hQ.symm)
  have HO5 := Lib.hid (ownsRow_kept HO4.out (Below.chg h45) (fun _ _ x => x))
  clear hw5 hQ h45
  -- what is there in every world behind
  have HSX : Hid (∀ w', Below w5.heap.size w5 w' → (w'.cell? ⟨P, 0, none⟩ = some (.string nm) ∧ w'.cell? ⟨P, 1, none⟩ = some (.int .i64 ps) ∧ w'.cell? ⟨P, 2, none⟩ = some (.int .i64 vs) ∧ w'.cell? ⟨P, 3, none⟩ = some (.int .i64 ar) ∧ w'.cell? ⟨P, 4, none⟩ = some (.slice A m c)) ∧ (w'.cell? ⟨Q, 0, none⟩ = some (.string nm) ∧ w'.cell? ⟨Q, 1, none⟩ = some (.int .i64 ps) ∧ w'.cell? ⟨Q, 2, none⟩ = some (.int .i64 vs) ∧ w'.cell? ⟨Q, 3, none⟩ = some (.int .i64 ar) ∧ w'.cell? ⟨Q, 4, none⟩ = some (.slice A4 m c4))) := Lib.hid (fun w' hb => by
    have hp := (Below.chg hb).heap HP5.out (fun x => x)
    have hq := (Below.chg hb).heap HQ5.out (fun x => x)
    have p0 := cell_of_block hp 0
    have p1 := cell_of_block hp 1
    have p2 := cell_of_block hp 2
    have p3 := cell_of_block hp 3
    have p4 := cell_of_block hp 4
    have q0 := cell_of_block hq 0
    have q1 := cell_of_block hq 1
    have q2 := cell_of_block hq 2
    have q3 := cell_of_block hq 3
    have q4 := cell_of_block hq 4
    simp at p0 p1 p2 p3 p4 q0 q1 q2 q3 q4
    exact ⟨⟨p0, p1, p2, p3, p4⟩, q0, q1, q2, q3, q4⟩)
  have HSL : Hid (∀ w', Below w5.heap.size w5 w' → Src w' (.slice A m c) L.length (insCells L)) := Lib.hid (fun w' hb => HSRC.out w' (bel_trans HB5.out hb))
  have HSR : Hid (∀ w', Below w5.heap.size w5 w' → Src w' (.slice A4 m c4) L.length (insCells L)) := Lib.hid (fun w' hb => by rw [HLL.out]; exact Src.of_row (ownsRow_kept HO5.out (Below.chg hb) (fun _ _ x => x)))
  have HLB : Hid (L.length ≤ 1048576 ∧ (forv L ps k q).length ≤ 1048576 ∧ (foldv L).length ≤ 1048576) := Lib.hid ⟨by rw [HLL.out]; omega, by have := forv_le L ps k q; have := HLL.out; omega, by have := foldv_le _ L rfl; have := HLL.out; omega⟩
  obtain ⟨wd, hwd⟩ : ∃ wd, wd = w5.drew := ⟨_, rfl⟩
  have hb : Below w5.heap.size w5 wd := by rw [hwd]; exact (Below.refl _ _).drew
  have hS := HSX.out wd hb
  refine wp_region_ord (S := fun w' => (w'.cell? ⟨P, 0, none⟩ = some (.string nm) ∧ w'.cell? ⟨P, 1, none⟩ = some (.int .i64 ps) ∧ w'.cell? ⟨P, 2, none⟩ = some (.int .i64 vs) ∧ w'.cell? ⟨P, 3, none⟩ = some (.int .i64 ar) ∧ w'.cell? ⟨P, 4, none⟩ = some (.slice A m c)) ∧ (w'.cell? ⟨Q, 0, none⟩ = some (.string nm) ∧ w'.cell? ⟨Q, 1, none⟩ = some (.int .i64 ps) ∧ w'.cell? ⟨Q, 2, none⟩ = some (.int .i64 vs) ∧ w'.cell? ⟨Q, 3, none⟩ = some (.int .i64 ar) ∧ w'.cell? ⟨Q, 4, none⟩ = some (.slice A4 m c4))) (N := fun i => true) (by kernel_rfl) [(0, true), (1, true), (2, true), (3, true), (4, true), (6, true), (7, true), (8, true), (5, false), (9, false), (10, false), (11, true), (12, true), (13, true), (15, true), (16, true), (14, false), (17, false), (18, false), (19, true), (20, true), (21, true), (22, true), (24, true), (25, true), (23, false), (26, false), (27, true), (28, true), (29, true)] (by kernel_rfl) ?_
  rw [← hwd]
  clear hwd
  iterate 8 (refine ord_look rfl hS rfl (by intro w hS; obtain ⟨⟨p0, p1, p2, p3, p4⟩, q0, q1, q2, q3, q4⟩ := hS; go_simp; with_reducible rfl) (fun c a w h => h) ?_; simp only [Act.put, List.setIfInBounds_toArray, List.set_cons_succ, List.set_cons_zero])
  refine ord_act rfl rfl (fun K hK => ?_)
  refine wp_call 8 _ _ Tryd.func8 rfl (by kernel_rfl) _ _ rfl #[.agg #[.string nm, .int .i64 ps, .int .i64 vs, .int .i64 ar, .slice A m c], .int .i64 k, .int .i64 q] (by simp [Act.eval]) (R := fun v w' => (∃ A6 c6, v = .slice A6 (forv L ps k q).length c6 ∧ w'.ownsRow 0 39 3 v (forv L ps k q).length (insCells (forv L ps k q))) ∧ Below w5.heap.size w5 w') (calls_ret (for_any nm ps vs ar k q (HSL.out _ hb) HLB.out.1 HWF.out) (by rintro e w' ⟨v', rfl, ho, _, hb'⟩; obtain ⟨_, A6, c6, rfl⟩ := ownsRow_slice ho; exact ⟨_, rfl, ⟨A6, c6, rfl, ho⟩, bel_trans hb hb'⟩)) ?_
  rintro v w6 ⟨⟨A6, c6, rfl, ho6⟩, hb5⟩
  have hS := HSX.out _ hb5
  refine hK _ _ ⟨fun _ => hS, ?_⟩
  clear hK K
  try simp only [Act.put, List.setIfInBounds_toArray, List.set_cons_succ, List.set_cons_zero]
  refine ord_act rfl rfl (fun K hK => ?_)
  refine wp_call 9 _ _ Tryd.func9 rfl (by kernel_rfl) _ _ rfl #[.agg #[.string nm, .int .i64 ps, .int .i64 vs, .int .i64 ar, .slice A4 m c4], .int .i64 k, .int .i64 q] (by simp [Act.eval]) (R := fun v w' => (∃ A7 c7, v = .slice A7 (forv L ps k q).length c7 ∧ Src w' v (forv L ps k q).length (insCells (forv L ps k q)) ∧ Below w6.heap.size w6 w') ∧ Below w5.heap.size w5 w') (calls_ret (rfor_any nm ps vs ar k q (HSR.out _ hb5) HLB.out.1 HFU.out HQ64.out) (by rintro e w' ⟨v', rfl, hs', hb'⟩; obtain ⟨_, A7, c7, rfl⟩ := hs'.bound; exact ⟨_, rfl, ⟨A7, c7, rfl, hs', hb'⟩, bel_trans hb5 hb'⟩)) ?_
  rintro v w7 ⟨⟨A7, c7, rfl, hs7, hb67⟩, hb9⟩
  have hS := HSX.out _ hb9
  refine hK _ _ ⟨fun _ => hS, ?_⟩
  clear hK K
  try simp only [Act.put, List.setIfInBounds_toArray, List.set_cons_succ, List.set_cons_zero]
  refine ord_act rfl rfl (fun K hK => ?_)
  refine wp_call 7 _ _ Tryd.func7 rfl (by kernel_rfl) _ _ rfl #[.slice A6 (forv L ps k q).length c6, .slice A7 (forv L ps k q).length c7] (by simp [Act.eval]) (R := fun v w' => (v = .bool true) ∧ Below w5.heap.size w5 w') (calls_ret (same_any (w := w7) (xs := forv L ps k q) (ys := forv L ps k q) (Src.of_row (ownsRow_kept ho6 (Below.chg hb67) (fun _ _ x => x))) hs7 HLB.out.2.1 HLB.out.2.1) (by rintro e w' ⟨rfl, hb'⟩; rw [decide_eq_true rfl]; exact ⟨_, rfl, rfl, bel_trans hb9 hb'⟩)) ?_
  rintro v w8 ⟨rfl, hb10⟩
  have hS := HSX.out _ hb10
  refine hK _ _ ⟨fun _ => hS, ?_⟩
  clear hK K
  try simp only [Act.put, List.setIfInBounds_toArray, List.set_cons_succ, List.set_cons_zero]
  iterate 5 (refine ord_look rfl hS rfl (by intro w hS; obtain ⟨⟨p0, p1, p2, p3, p4⟩, q0, q1, q2, q3, q4⟩ := hS; go_simp; with_reducible rfl) (fun c a w h => h) ?_; simp only [Act.put, List.setIfInBounds_toArray, List.set_cons_succ, List.set_cons_zero])
  refine ord_act rfl rfl (fun K hK => ?_)
  refine wp_call 10 _ _ Tryd.func10 rfl (by kernel_rfl) _ _ rfl #[.agg #[.string nm, .int .i64 ps, .int .i64 vs, .int .i64 ar, .slice A m c]] (by simp [Act.eval]) (R := fun v w' => (∃ A9 c9, v = .slice A9 (foldv L).length c9 ∧ w'.ownsRow 0 39 3 v (foldv L).length (insCells (foldv L))) ∧ Below w5.heap.size w5 w') (calls_ret (plain_any nm ps vs ar (HSL.out _ hb10) HLB.out.1 HWF.out) (by rintro e w' ⟨v', rfl, ho, _, hb'⟩; obtain ⟨_, A9, c9, rfl⟩ := ownsRow_slice ho; exact ⟨_, rfl, ⟨A9, c9, rfl, ho⟩, bel_trans hb10 hb'⟩)) ?_
  rintro v w9 ⟨⟨A9, c9, rfl, ho9⟩, hb14⟩
  have hS := HSX.out _ hb14
  refine hK _ _ ⟨fun _ => hS, ?_⟩
  clear hK K
  try simp only [Act.put, List.setIfInBounds_toArray, List.set_cons_succ, List.set_cons_zero]
  refine ord_act rfl rfl (fun K hK => ?_)
  refine wp_call 11 _ _ Tryd.func11 rfl (by kernel_rfl) _ _ rfl #[.slice A4 m c4] (by simp [Act.eval]) (R := fun v w' => (∃ A10 c10, v = .slice A10 (foldv L).length c10 ∧ Src w' v (foldv L).length (insCells (foldv L)) ∧ Below w9.heap.size w9 w') ∧ Below w5.heap.size w5 w') (calls_ret (rfold_any (HSR.out _ hb14) HLB.out.1 HFU.out) (by rintro e w' ⟨v', rfl, hs', hb'⟩; obtain ⟨_, A10, c10, rfl⟩ := hs'.bound; exact ⟨_, rfl, ⟨A10, c10, rfl, hs', hb'⟩, bel_trans hb14 hb'⟩)) ?_
  rintro v w10 ⟨⟨A10, c10, rfl, hs10, hb910⟩, hb17⟩
  have hS := HSX.out _ hb17
  refine hK _ _ ⟨fun _ => hS, ?_⟩
  clear hK K
  try simp only [Act.put, List.setIfInBounds_toArray, List.set_cons_succ, List.set_cons_zero]
  refine ord_act rfl rfl (fun K hK => ?_)
  refine wp_call 7 _ _ Tryd.func7 rfl (by kernel_rfl) _ _ rfl #[.slice A9 (foldv L).length c9, .slice A10 (foldv L).length c10] (by simp [Act.eval]) (R := fun v w' => (v = .bool true) ∧ Below w5.heap.size w5 w') (calls_ret (same_any (w := w10) (xs := foldv L) (ys := foldv L) (Src.of_row (ownsRow_kept ho9 (Below.chg hb910) (fun _ _ x => x))) hs10 HLB.out.2.2 HLB.out.2.2) (by rintro e w' ⟨rfl, hb'⟩; rw [decide_eq_true rfl]; exact ⟨_, rfl, rfl, bel_trans hb17 hb'⟩)) ?_
  rintro v w11 ⟨rfl, hb18⟩
  have hS := HSX.out _ hb18
  refine hK _ _ ⟨fun _ => hS, ?_⟩
  clear hK K
  try simp only [Act.put, List.setIfInBounds_toArray, List.set_cons_succ, List.set_cons_zero]
  iterate 6 (refine ord_look rfl hS rfl (by intro w hS; obtain ⟨⟨p0, p1, p2, p3, p4⟩, q0, q1, q2, q3, q4⟩ := hS; go_simp; with_reducible rfl) (fun c a w h => h) ?_; simp only [Act.put, List.setIfInBounds_toArray, List.set_cons_succ, List.set_cons_zero])
  refine ord_act rfl rfl (fun K hK => ?_)
  refine wp_call 12 _ _ Tryd.func12 rfl (by kernel_rfl) _ _ rfl #[.agg #[.string nm, .int .i64 ps, .int .i64 vs, .int .i64 ar, .slice A m c], .int .i64 k] (by simp [Act.eval]) (R := fun v w' => (v = .bool (fixedv ps k L)) ∧ Below w5.heap.size w5 w') (calls_ret (fixed_any nm ps vs ar k (HSL.out _ hb18) HLB.out.1) (by rintro e w' ⟨rfl, hb'⟩; exact ⟨_, rfl, rfl, bel_trans hb18 hb'⟩)) ?_
  rintro v w12 ⟨rfl, hb23⟩
  have hS := HSX.out _ hb23
  refine hK _ _ ⟨fun _ => hS, ?_⟩
  clear hK K
  try simp only [Act.put, List.setIfInBounds_toArray, List.set_cons_succ, List.set_cons_zero]
  refine ord_act rfl rfl (fun K hK => ?_)
  refine wp_call 13 _ _ Tryd.func13 rfl (by kernel_rfl) _ _ rfl #[.agg #[.string nm, .int .i64 ps, .int .i64 vs, .int .i64 ar, .slice A4 m c4], .int .i64 k] (by simp [Act.eval]) (R := fun v w' => (v = .bool (fixedv ps k L)) ∧ Below w5.heap.size w5 w') (calls_ret (rfixed_any nm ps vs ar k (HSR.out _ hb23) HLB.out.1) (by rintro e w' ⟨rfl, hb'⟩; exact ⟨_, rfl, rfl, bel_trans hb23 hb'⟩)) ?_
  rintro v w13 ⟨rfl, hb26⟩
  have hS := HSX.out _ hb26
  refine hK _ _ ⟨fun _ => hS, ?_⟩
  clear hK K
  try simp only [Act.put, List.setIfInBounds_toArray, List.set_cons_succ, List.set_cons_zero]
  obtain ⟨fb, hfb⟩ : ∃ fb, fb = fixedv ps k L := ⟨_, rfl⟩
  rw [← hfb]
  clear hfb
  have hbq : (fb == fb) = true := by simp
  iterate 3 (refine ord_look rfl hS rfl (by intro w hS; obtain ⟨⟨p0, p1, p2, p3, p4⟩, q0, q1, q2, q3, q4⟩ := hS; go_simp; with_reducible rfl) (fun c a w h => h) ?_; simp only [Act.put, List.setIfInBounds_toArray, List.set_cons_succ, List.set_cons_zero])
  refine ord_end ?_
  have HB13 := Lib.hid (bel_trans HB5.out hb26)
  go_wp2_with fail
  go_ret
  exact ⟨rfl, HB13.out⟩
end Go.Proofs.YtpjpndndpcebcaaDoor
