/- InterpBounds: the walk. -/
import Derived.Test.YtdpimkbdieafgaaDoorIntBo
import Derived.Test.YtdpimkbdieafgaaDoorIntRd
import Derived.Handy
namespace Go.Proofs.YtdpimkbdieafgaaDoor
set_option linter.unusedVariables false
set_option linter.unusedSimpArgs false
open Go.RowKit

theorem fewv_bound (fs : List FnR) : (fewv fs).length ≤ 1048576 ∧ ∀ f ∈ fewv fs, f.l.length ≤ 1048576 := by
  unfold fewv
  refine ⟨by rw [List.length_map, List.length_take]; omega, fun f hf => ?_⟩
  obtain ⟨g, _, rfl⟩ := List.mem_map.1 hf
  show (g.l.take 200).length ≤ _
  rw [List.length_take]
  omega
/-- few's code and a run of it -/
theorem run_few {w : World} {V : Value} {fs : List FnR} {I0 I1 : Value} {i0 i1 : List Int} {fuel quota : Int} (hs : SortsIs w) (hfs : FnsIs w V (fewv fs)) (h0 : NumSrc w I0 i0) (h1 : NumSrc w I1 i1) (hfu : fuel ≤ 1048576) :
    Calls Tryd.prog 12 #[.agg #[V], .agg #[I0, I1], .int .i64 fuel, .int .i64 quota, .nilIface] w fun e w' => ∃ v o, e = .returned v ∧ OutIs w' v o ∧ RunO (fewv fs) i0 i1 fuel quota o ∧ Below w.heap.size w w' ∧ FreshV w.heap.size w' v := by
  obtain ⟨_, A, c, rfl⟩ := hfs.bound
  exact run_any hs hfs (fewv_bound fs).1 (fewv_bound fs).2 h0 h1 hfu
theorem getD_last (l : List Int) : (0 :: l).getD l.length 0 = (0 :: l).getLastD 0 := by
  rw [List.getD_eq_getElem?_getD, List.getElem?_eq_getElem (by simp)]
  simp [List.getLastD, List.getLast_eq_getElem]

def BoxO (W wx : World) (B : Nat) (fs : List FnR) (i0 i1 : List Int) (fuel quota : Int) (o : OutR) : Prop :=
  ∃ AP cP AK cK AC cC, wx.heap[B]? = some (.cells #[.slice AP o.pr.length cP, .slice AK o.ke.length cK, .slice AC o.cl.length cC, .int .i64 o.clk, .int .i64 o.res, .int .i64 o.err] 32 (0, 0)) ∧ NumSrc wx (.slice AP o.pr.length cP) o.pr ∧ NumSrc wx (.slice AK o.ke.length cK) o.ke ∧ NumSrc wx (.slice AC o.cl.length cC) o.cl ∧ RunO fs i0 i1 fuel quota o ∧ Below W.heap.size W wx

set_option maxHeartbeats 8000000 in
set_option maxRecDepth 100000 in
theorem interpBounds_walk (W : World) (fs : List FnR) (cs : List Value) (x : List Int × List Int) (cs2 : List Value) (fuel0 quota : Int) (hL : SortsIs W) (hf : rdCode.K W fs cs) (hx : rdInputs.K W x cs2) (wf : (Lit.int .i64 fuel0).wf = true) (wq : (Lit.int .i64 quota).wf = true) :
    Calls Tryd.prog 4 #[.agg cs.toArray, .agg cs2.toArray, .int .i64 fuel0, .int .i64 quota] W fun e w' => e = .returned (.bool true) ∧ Below W.heap.size W w' := by
  have hf : CodeAt W fs cs := hf
  have hx : InputsAt W x cs2 := hx
  obtain ⟨A, c, rfl, hfs, _⟩ := hf
  obtain ⟨V0, V1, rfl, h0, h1, _, _⟩ := hx
  obtain ⟨i0, i1⟩ := x
  simp only at h0 h1
  simp only [List.toArray]
  obtain ⟨A0, d0, e0⟩ := h0.shape
  obtain ⟨A1, d1, e1⟩ := h1.shape
  obtain ⟨n0, hn0⟩ : ∃ n0, n0 = i0.length := ⟨_, rfl⟩
  obtain ⟨n1, hn1⟩ : ∃ n1, n1 = i1.length := ⟨_, rfl⟩
  obtain ⟨k, hk⟩ : ∃ k, k = fs.length := ⟨_, rfl⟩
  rw [← hn0] at e0
  rw [← hn1] at e1
  rw [← hk] at hfs ⊢
  subst e0 e1
  obtain ⟨F1, hF1⟩ : ∃ F1, (if fuel0 < 0 then 0 else fuel0) = F1 := ⟨_, rfl⟩
  obtain ⟨F, hF⟩ : ∃ F, (if 3000 < F1 then 3000 else F1) = F := ⟨_, rfl⟩
  have hFb : 0 ≤ F ∧ F ≤ 3000 := by split at hF1 <;> split at hF <;> omega
  obtain ⟨wa, hwa⟩ : ∃ z, z = W.alloc (.cells #[.slice A k c] 24) := ⟨_, rfl⟩
  obtain ⟨Q1, hQ1⟩ : ∃ z, z = W.heap.size := ⟨_, rfl⟩
  obtain ⟨w0, hw0⟩ : ∃ z, z = wa.alloc (.cells #[.slice A0 n0 d0, .slice A1 n1 d1] 27) := ⟨_, rfl⟩
  obtain ⟨Q2, hQ2⟩ : ∃ z, z = wa.heap.size := ⟨_, rfl⟩
  have e2 : Q2 = Q1 + 1 := by rw [hQ2, hwa, hQ1]; show (W.heap.push _).size = _; exact Array.size_push _
  have ca : Chg (fun _ => False) W wa := by rw [hwa]; exact (Chg.refl _ _).alloc _
  have c0 : Chg (fun _ => False) wa w0 := by rw [hw0]; exact (Chg.refl _ _).alloc _
  have x1 : w0.heap[Q1]? = some (.cells #[.slice A k c] 24 (0, 0)) := c0.heap (by rw [hwa]; exact heap_new' hQ1.symm) (fun x => x)
  have x2 : w0.heap[Q2]? = some (.cells #[.slice A0 n0 d0, .slice A1 n1 d1] 27 (0, 0)) := by rw [hw0]; exact heap_new' hQ2.symm
  have b0 : Below W.heap.size W w0 := (ca.then c0).below (fun k h => h.elim) (Nat.le_refl _)
  have CS := Lib.hid (shown_any (hL.keep b0))
  have HB0 := Lib.hid b0
  have HX := Lib.hid (And.intro x1 x2)
  have HWE := Lib.hid (And.intro hQ1 (And.intro hwa (And.intro e2 hw0)))
  have HLL := Lib.hid hL
  have HFS := Lib.hid hfs
  have HIN := Lib.hid (And.intro h0 h1)
  have HK := Lib.hid hk
  have HFB := Lib.hid hFb
  clear hQ1 hQ2 hwa e2 hw0 ca c0 x1 x2 b0 hL hfs h0 h1 hk hn0 hn1 wf wq
  go_enter Tryd.func4, Tryd.ntmps4
  go_upto_region 1 with fail
  rw [← HWE.out.1, ← HWE.out.2.1, ← HWE.out.2.2.1, ← HWE.out.2.2.2]
  go_wp2_with fail
  refine CS.out.mono ?_; rintro e w1 ⟨rfl, hb1⟩
  have hb01 := bel_trans HB0.out hb1
  have k1 := cell_of_block ((Below.chg hb1).heap HX.out.1 (fun x => x)) 0
  have k2 := cell_of_block ((Below.chg hb1).heap HX.out.2 (fun x => x)) 0
  have k3 := cell_of_block ((Below.chg hb1).heap HX.out.2 (fun x => x)) 1
  simp at k1 k2 k3
  have HB1 := Lib.hid hb01
  clear hb01 CS hb1
  have HSK : Hid (∀ w', Below w1.heap.size w1 w' → w'.cell? ⟨Q1, 0, none⟩ = some (.slice A k c) ∧ w'.cell? ⟨Q2, 0, none⟩ = some (.slice A0 n0 d0) ∧ w'.cell? ⟨Q2, 1, none⟩ = some (.slice A1 n1 d1)) := Lib.hid (fun w' hb => ⟨(Below.chg hb).cell k1 (fun x => x), (Below.chg hb).cell k2 (fun x => x), (Below.chg hb).cell k3 (fun x => x)⟩)
  go_upto_region 3 with fail
  clear k1 k2 k3 hF1 hF hFb
  go_cut [10] from 17 to 22 (fun v wx => ∃ (B : Nat) (o : OutR), v = .pointer (some ⟨B, 0, none⟩) ∧ Hid (BoxO W wx B (fewv fs) i0 i1 F quota o))
  case first J K' hJ hK' =>
    obtain ⟨wd, hwd⟩ : ∃ wd, wd = w1.drew := ⟨_, rfl⟩
    have hcd : Below w1.heap.size w1 wd := by rw [hwd]; exact (Below.refl _ _).drew
    have hS := HSK.out wd hcd
    refine wp_region_tree (S := fun w' => w'.cell? ⟨Q1, 0, none⟩ = some (.slice A k c) ∧ w'.cell? ⟨Q2, 0, none⟩ = some (.slice A0 n0 d0) ∧ w'.cell? ⟨Q2, 1, none⟩ = some (.slice A1 n1 d1)) (N := fun i => true) (by kernel_rfl) (.look 0 (.look 2 (.look 3 (.look 4 (.fork 1 (.fork 5 (.act 6 (.act 7 .done)) 6 (.act 5 (.act 7 .done))) 6 (.act 1 (.act 5 (.act 7 .done)))))))) (by kernel_rfl) ?_
    rw [← hwd]
    clear hwd
    iterate 4 (refine tree_look rfl hS rfl (by intro w hS; obtain ⟨p0, p1, p2⟩ := hS; go_simp; with_reducible rfl) (fun c a w h => h) ?_; simp only [Act.put, List.setIfInBounds_toArray, List.set_cons_succ, List.set_cons_zero])
    refine tree_fork rfl rfl rfl rfl (fun K hK => ?_) (fun K hK => ?_)
    · refine wp_call 11 _ _ Tryd.func11 rfl (by kernel_rfl) _ _ rfl #[.agg #[.slice A k c]] (by simp [Act.eval]) (R := fun v w' => ∃ V, v = .agg #[V] ∧ FnsIs w' V (fewv fs) ∧ Below wd.heap.size wd w') (calls_ret (few_any (HFS.out.keep (bel_trans HB1.out (hcd))) HK.out) (by rintro e w' ⟨V, rfl, h⟩; exact ⟨_, rfl, V, rfl, h⟩)) ?_
      rintro v y1 ⟨V, rfl, hV, bF⟩
      obtain ⟨_, AV, cV, rfl⟩ := hV.bound
      have hSn := HSK.out y1 (bel_trans (hcd) bF)
      refine hK _ _ ⟨fun _ => hSn, ?_⟩
      clear hK K hS
      have hS := hSn
      clear hSn
      try simp only [Act.put, List.setIfInBounds_toArray, List.set_cons_succ, List.set_cons_zero]
      refine tree_fork rfl rfl rfl rfl (fun K hK => ?_) (fun K hK => ?_)
      · refine wp_call 12 _ _ Tryd.func12 rfl (by kernel_rfl) _ _ rfl #[.agg #[.slice AV (fewv fs).length cV], .agg #[.slice A0 n0 d0, .slice A1 n1 d1], .int .i64 F, .int .i64 quota, .nilIface] (by simp [Act.eval]) (R := fun v w' => ∃ o, OutIs w' v o ∧ RunO (fewv fs) i0 i1 F quota o ∧ Below y1.heap.size y1 w' ∧ FreshV y1.heap.size w' v) (calls_ret (run_few (HLL.out.keep (bel_trans HB1.out (bel_trans hcd bF))) (hV) (HIN.out.1.keep (bel_trans HB1.out (bel_trans hcd bF))) (HIN.out.2.keep (bel_trans HB1.out (bel_trans hcd bF))) (by have := HFB.out; omega)) (by rintro e w' ⟨v, o, rfl, h⟩; exact ⟨_, rfl, o, h⟩)) ?_
        rintro v y2 ⟨o, hout, hrun, bR, hfr⟩
        obtain ⟨AP, cP, AK, cK, AC, cC, rfl, np, nk, nc⟩ := outIs_shape hout
        have hSn := HSK.out y2 (bel_trans (bel_trans hcd bF) bR)
        refine hK _ _ ⟨fun _ => hSn, ?_⟩
        clear hK K hS
        have hS := hSn
        clear hSn
        try simp only [Act.put, List.setIfInBounds_toArray, List.set_cons_succ, List.set_cons_zero]
        refine tree_act rfl rfl (fun K hK => ?_)
        go_simp
        obtain ⟨y3, hy3⟩ : ∃ z, z = y2.alloc (.cells #[.slice none 0 0, .slice none 0 0, .slice none 0 0, .int .i64 0, .int .i64 0, .int .i64 0] 32) := ⟨_, rfl⟩
        obtain ⟨B, hB⟩ : ∃ z, z = y2.heap.size := ⟨_, rfl⟩
        have bA : Below y2.heap.size y2 y3 := by rw [hy3]; exact (Below.refl _ _).alloc (Nat.le_refl _) _
        have xB : y3.heap[B]? = some (.cells #[.slice none 0 0, .slice none 0 0, .slice none 0 0, .int .i64 0, .int .i64 0, .int .i64 0] 32 (0, 0)) := by rw [hy3]; exact heap_new' hB.symm
        rw [← hy3, ← hB]
        have HEB := Lib.hid hB
        clear hB hy3
        have hSn := HSK.out y3 (bel_trans (bel_trans (bel_trans hcd bF) bR) bA)
        refine hK _ _ ⟨fun _ => hSn, ?_⟩
        clear hK K hS
        have hS := hSn
        clear hSn
        try simp only [Act.put, List.setIfInBounds_toArray, List.set_cons_succ, List.set_cons_zero]
        refine tree_act rfl rfl (fun K hK => ?_)
        have xBi := xB
        have u0 := cell_of_block xBi 0
        have f0 := frozen_of_block xBi 0
        have u1 := cell_of_block xBi 1
        have f1 := frozen_of_block xBi 1
        have u2 := cell_of_block xBi 2
        have f2 := frozen_of_block xBi 2
        have u3 := cell_of_block xBi 3
        have f3 := frozen_of_block xBi 3
        have u4 := cell_of_block xBi 4
        have f4 := frozen_of_block xBi 4
        have u5 := cell_of_block xBi 5
        have f5 := frozen_of_block xBi 5
        simp at u0 u1 u2 u3 u4 u5
        obtain ⟨wf, hwf⟩ : ∃ z, z = ((((((y3.setCell ⟨B, 0, none⟩ (.slice AP o.pr.length cP)).setCell ⟨B, 1, none⟩ (.slice AK o.ke.length cK)).setCell ⟨B, 2, none⟩ (.slice AC o.cl.length cC)).setCell ⟨B, 3, none⟩ (.int .i64 o.clk)).setCell ⟨B, 4, none⟩ (.int .i64 o.res)).setCell ⟨B, 5, none⟩ (.int .i64 o.err)) := ⟨_, rfl⟩
        have boxf := (heap_set (heap_set (heap_set (heap_set (heap_set (heap_set xBi 0 (.slice AP o.pr.length cP)) 1 (.slice AK o.ke.length cK)) 2 (.slice AC o.cl.length cC)) 3 (.int .i64 o.clk)) 4 (.int .i64 o.res)) 5 (.int .i64 o.err))
        rw [← hwf] at boxf
        have hcf : Chg (fun k => k = B) y3 wf := by rw [hwf]; exact ((((((Chg.refl _ _).then (Chg.set_cell ⟨B, 0, none⟩ _)).then (Chg.set_cell ⟨B, 1, none⟩ _)).then (Chg.set_cell ⟨B, 2, none⟩ _)).then (Chg.set_cell ⟨B, 3, none⟩ _)).then (Chg.set_cell ⟨B, 4, none⟩ _)).then (Chg.set_cell ⟨B, 5, none⟩ _)
        have hbi : Below W.heap.size W y3 := bel_trans HB1.out (bel_trans (bel_trans (bel_trans hcd bF) bR) bA)
        have hB1 : w1.heap.size ≤ B := by have := HEB.out; have := (bel_trans (bel_trans hcd bF) bR).size; omega
        have hBW : W.heap.size ≤ B := by have := HEB.out; have := (bel_trans HB1.out (bel_trans (bel_trans hcd bF) bR)).size; omega
        have hne : ∀ V ∈ [Value.slice AP o.pr.length cP, Value.slice AK o.ke.length cK, Value.slice AC o.cl.length cC], ∀ k, V.ownBlock = some k → ¬ k = B := fun V hV k hk => by
          obtain ⟨_, _, _, _, _, _, e, hfr2⟩ := hfr
          injection e with e
          simp only [Array.mk.injEq, List.cons.injEq, and_true] at e
          obtain ⟨rfl, rfl, rfl, _⟩ := e
          have h := hfr2 V hV k hk
          have := HEB.out; omega
        have hbx : BoxO W wf B (fewv fs) i0 i1 F quota o := ⟨_, _, _, _, _, _, boxf, (np.keep bA).keptX hcf (hne _ (by simp)), (nk.keep bA).keptX hcf (hne _ (by simp)), (nc.keep bA).keptX hcf (hne _ (by simp)), hrun, hbi.trans (hcf.below (B := W.heap.size) (fun k e => by have e : k = B := e; rw [e]; exact hBW) hbi.size)⟩
        go_simp
        rw [← hwf]
        refine hK _ _ ⟨fun _ => HSK.out wf ((bel_trans (bel_trans (bel_trans hcd bF) bR) bA).trans (hcf.below (B := w1.heap.size) (fun k e => by have e : k = B := e; rw [e]; exact hB1) (bel_trans (bel_trans (bel_trans hcd bF) bR) bA).size)), ?_⟩
        clear hK K hS hwf u0 u1 u2 u3 u4 u5 f0 f1 f2 f3 f4 f5
        try simp only [Act.put, List.setIfInBounds_toArray, List.set_cons_succ, List.set_cons_zero]
        refine tree_end ?_
        refine hK' _ _ (Met.intro (hJ _ _ ?_))
        (repeat apply Exists.intro)
        refine ⟨?rel, rfl⟩
        case rel => exact ⟨B, o, rfl, Lib.hid hbx⟩

      · go_simp
        obtain ⟨y2, hy2⟩ : ∃ z, z = y1.alloc (.cells #[.slice none 0 0, .slice none 0 0, .slice none 0 0, .int .i64 0, .int .i64 0, .int .i64 0] 32) := ⟨_, rfl⟩
        obtain ⟨B, hB⟩ : ∃ z, z = y1.heap.size := ⟨_, rfl⟩
        have bA : Below y1.heap.size y1 y2 := by rw [hy2]; exact (Below.refl _ _).alloc (Nat.le_refl _) _
        have xB : y2.heap[B]? = some (.cells #[.slice none 0 0, .slice none 0 0, .slice none 0 0, .int .i64 0, .int .i64 0, .int .i64 0] 32 (0, 0)) := by rw [hy2]; exact heap_new' hB.symm
        rw [← hy2, ← hB]
        have HEB := Lib.hid hB
        clear hB hy2
        have hSn := HSK.out y2 (bel_trans (bel_trans hcd bF) bA)
        refine hK _ _ ⟨fun _ => hSn, ?_⟩
        clear hK K hS
        have hS := hSn
        clear hSn
        try simp only [Act.put, List.setIfInBounds_toArray, List.set_cons_succ, List.set_cons_zero]
        refine tree_act rfl rfl (fun K hK => ?_)
        refine wp_call 12 _ _ Tryd.func12 rfl (by kernel_rfl) _ _ rfl #[.agg #[.slice AV (fewv fs).length cV], .agg #[.slice A0 n0 d0, .slice A1 n1 d1], .int .i64 F, .int .i64 quota, .nilIface] (by simp [Act.eval]) (R := fun v w' => ∃ o, OutIs w' v o ∧ RunO (fewv fs) i0 i1 F quota o ∧ Below y2.heap.size y2 w' ∧ FreshV y2.heap.size w' v) (calls_ret (run_few (HLL.out.keep (bel_trans HB1.out (bel_trans (bel_trans hcd bF) bA))) (hV.keep bA) (HIN.out.1.keep (bel_trans HB1.out (bel_trans (bel_trans hcd bF) bA))) (HIN.out.2.keep (bel_trans HB1.out (bel_trans (bel_trans hcd bF) bA))) (by have := HFB.out; omega)) (by rintro e w' ⟨v, o, rfl, h⟩; exact ⟨_, rfl, o, h⟩)) ?_
        rintro v y3 ⟨o, hout, hrun, bR, hfr⟩
        obtain ⟨AP, cP, AK, cK, AC, cC, rfl, np, nk, nc⟩ := outIs_shape hout
        have hSn := HSK.out y3 (bel_trans (bel_trans (bel_trans hcd bF) bA) bR)
        refine hK _ _ ⟨fun _ => hSn, ?_⟩
        clear hK K hS
        have hS := hSn
        clear hSn
        try simp only [Act.put, List.setIfInBounds_toArray, List.set_cons_succ, List.set_cons_zero]
        refine tree_act rfl rfl (fun K hK => ?_)
        have xBi := (Below.chg bR).heap xB (fun x => x)
        have u0 := cell_of_block xBi 0
        have f0 := frozen_of_block xBi 0
        have u1 := cell_of_block xBi 1
        have f1 := frozen_of_block xBi 1
        have u2 := cell_of_block xBi 2
        have f2 := frozen_of_block xBi 2
        have u3 := cell_of_block xBi 3
        have f3 := frozen_of_block xBi 3
        have u4 := cell_of_block xBi 4
        have f4 := frozen_of_block xBi 4
        have u5 := cell_of_block xBi 5
        have f5 := frozen_of_block xBi 5
        simp at u0 u1 u2 u3 u4 u5
        obtain ⟨wf, hwf⟩ : ∃ z, z = ((((((y3.setCell ⟨B, 0, none⟩ (.slice AP o.pr.length cP)).setCell ⟨B, 1, none⟩ (.slice AK o.ke.length cK)).setCell ⟨B, 2, none⟩ (.slice AC o.cl.length cC)).setCell ⟨B, 3, none⟩ (.int .i64 o.clk)).setCell ⟨B, 4, none⟩ (.int .i64 o.res)).setCell ⟨B, 5, none⟩ (.int .i64 o.err)) := ⟨_, rfl⟩
        have boxf := (heap_set (heap_set (heap_set (heap_set (heap_set (heap_set xBi 0 (.slice AP o.pr.length cP)) 1 (.slice AK o.ke.length cK)) 2 (.slice AC o.cl.length cC)) 3 (.int .i64 o.clk)) 4 (.int .i64 o.res)) 5 (.int .i64 o.err))
        rw [← hwf] at boxf
        have hcf : Chg (fun k => k = B) y3 wf := by rw [hwf]; exact ((((((Chg.refl _ _).then (Chg.set_cell ⟨B, 0, none⟩ _)).then (Chg.set_cell ⟨B, 1, none⟩ _)).then (Chg.set_cell ⟨B, 2, none⟩ _)).then (Chg.set_cell ⟨B, 3, none⟩ _)).then (Chg.set_cell ⟨B, 4, none⟩ _)).then (Chg.set_cell ⟨B, 5, none⟩ _)
        have hbi : Below W.heap.size W y3 := bel_trans HB1.out (bel_trans (bel_trans (bel_trans hcd bF) bA) bR)
        have hB1 : w1.heap.size ≤ B := by have := HEB.out; have := (bel_trans hcd bF).size; omega
        have hBW : W.heap.size ≤ B := by have := HEB.out; have := (bel_trans HB1.out (bel_trans hcd bF)).size; omega
        have hne : ∀ V ∈ [Value.slice AP o.pr.length cP, Value.slice AK o.ke.length cK, Value.slice AC o.cl.length cC], ∀ k, V.ownBlock = some k → ¬ k = B := fun V hV k hk => by
          obtain ⟨_, _, _, _, _, _, e, hfr2⟩ := hfr
          injection e with e
          simp only [Array.mk.injEq, List.cons.injEq, and_true] at e
          obtain ⟨rfl, rfl, rfl, _⟩ := e
          have h := hfr2 V hV k hk
          have := HEB.out; have := lt_of_heap xB; omega
        have hbx : BoxO W wf B (fewv fs) i0 i1 F quota o := ⟨_, _, _, _, _, _, boxf, np.keptX hcf (hne _ (by simp)), nk.keptX hcf (hne _ (by simp)), nc.keptX hcf (hne _ (by simp)), hrun, hbi.trans (hcf.below (B := W.heap.size) (fun k e => by have e : k = B := e; rw [e]; exact hBW) hbi.size)⟩
        go_simp
        rw [← hwf]
        refine hK _ _ ⟨fun _ => HSK.out wf ((bel_trans (bel_trans (bel_trans hcd bF) bA) bR).trans (hcf.below (B := w1.heap.size) (fun k e => by have e : k = B := e; rw [e]; exact hB1) (bel_trans (bel_trans (bel_trans hcd bF) bA) bR).size)), ?_⟩
        clear hK K hS hwf u0 u1 u2 u3 u4 u5 f0 f1 f2 f3 f4 f5
        try simp only [Act.put, List.setIfInBounds_toArray, List.set_cons_succ, List.set_cons_zero]
        refine tree_end ?_
        refine hK' _ _ (Met.intro (hJ _ _ ?_))
        (repeat apply Exists.intro)
        refine ⟨?rel, rfl⟩
        case rel => exact ⟨B, o, rfl, Lib.hid hbx⟩
    · go_simp
      obtain ⟨y1, hy1⟩ : ∃ z, z = wd.alloc (.cells #[.slice none 0 0, .slice none 0 0, .slice none 0 0, .int .i64 0, .int .i64 0, .int .i64 0] 32) := ⟨_, rfl⟩
      obtain ⟨B, hB⟩ : ∃ z, z = wd.heap.size := ⟨_, rfl⟩
      have bA : Below wd.heap.size wd y1 := by rw [hy1]; exact (Below.refl _ _).alloc (Nat.le_refl _) _
      have xB : y1.heap[B]? = some (.cells #[.slice none 0 0, .slice none 0 0, .slice none 0 0, .int .i64 0, .int .i64 0, .int .i64 0] 32 (0, 0)) := by rw [hy1]; exact heap_new' hB.symm
      rw [← hy1, ← hB]
      have HEB := Lib.hid hB
      clear hB hy1
      have hSn := HSK.out y1 (bel_trans (hcd) bA)
      refine hK _ _ ⟨fun _ => hSn, ?_⟩
      clear hK K hS
      have hS := hSn
      clear hSn
      try simp only [Act.put, List.setIfInBounds_toArray, List.set_cons_succ, List.set_cons_zero]
      refine tree_act rfl rfl (fun K hK => ?_)
      refine wp_call 11 _ _ Tryd.func11 rfl (by kernel_rfl) _ _ rfl #[.agg #[.slice A k c]] (by simp [Act.eval]) (R := fun v w' => ∃ V, v = .agg #[V] ∧ FnsIs w' V (fewv fs) ∧ Below y1.heap.size y1 w') (calls_ret (few_any (HFS.out.keep (bel_trans HB1.out (bel_trans hcd bA))) HK.out) (by rintro e w' ⟨V, rfl, h⟩; exact ⟨_, rfl, V, rfl, h⟩)) ?_
      rintro v y2 ⟨V, rfl, hV, bF⟩
      obtain ⟨_, AV, cV, rfl⟩ := hV.bound
      have hSn := HSK.out y2 (bel_trans (bel_trans hcd bA) bF)
      refine hK _ _ ⟨fun _ => hSn, ?_⟩
      clear hK K hS
      have hS := hSn
      clear hSn
      try simp only [Act.put, List.setIfInBounds_toArray, List.set_cons_succ, List.set_cons_zero]
      refine tree_act rfl rfl (fun K hK => ?_)
      refine wp_call 12 _ _ Tryd.func12 rfl (by kernel_rfl) _ _ rfl #[.agg #[.slice AV (fewv fs).length cV], .agg #[.slice A0 n0 d0, .slice A1 n1 d1], .int .i64 F, .int .i64 quota, .nilIface] (by simp [Act.eval]) (R := fun v w' => ∃ o, OutIs w' v o ∧ RunO (fewv fs) i0 i1 F quota o ∧ Below y2.heap.size y2 w' ∧ FreshV y2.heap.size w' v) (calls_ret (run_few (HLL.out.keep (bel_trans HB1.out (bel_trans (bel_trans hcd bA) bF))) (hV) (HIN.out.1.keep (bel_trans HB1.out (bel_trans (bel_trans hcd bA) bF))) (HIN.out.2.keep (bel_trans HB1.out (bel_trans (bel_trans hcd bA) bF))) (by have := HFB.out; omega)) (by rintro e w' ⟨v, o, rfl, h⟩; exact ⟨_, rfl, o, h⟩)) ?_
      rintro v y3 ⟨o, hout, hrun, bR, hfr⟩
      obtain ⟨AP, cP, AK, cK, AC, cC, rfl, np, nk, nc⟩ := outIs_shape hout
      have hSn := HSK.out y3 (bel_trans (bel_trans (bel_trans hcd bA) bF) bR)
      refine hK _ _ ⟨fun _ => hSn, ?_⟩
      clear hK K hS
      have hS := hSn
      clear hSn
      try simp only [Act.put, List.setIfInBounds_toArray, List.set_cons_succ, List.set_cons_zero]
      refine tree_act rfl rfl (fun K hK => ?_)
      have xBi := (Below.chg (bel_trans bF bR)).heap xB (fun x => x)
      have u0 := cell_of_block xBi 0
      have f0 := frozen_of_block xBi 0
      have u1 := cell_of_block xBi 1
      have f1 := frozen_of_block xBi 1
      have u2 := cell_of_block xBi 2
      have f2 := frozen_of_block xBi 2
      have u3 := cell_of_block xBi 3
      have f3 := frozen_of_block xBi 3
      have u4 := cell_of_block xBi 4
      have f4 := frozen_of_block xBi 4
      have u5 := cell_of_block xBi 5
      have f5 := frozen_of_block xBi 5
      simp at u0 u1 u2 u3 u4 u5
      obtain ⟨wf, hwf⟩ : ∃ z, z = ((((((y3.setCell ⟨B, 0, none⟩ (.slice AP o.pr.length cP)).setCell ⟨B, 1, none⟩ (.slice AK o.ke.length cK)).setCell ⟨B, 2, none⟩ (.slice AC o.cl.length cC)).setCell ⟨B, 3, none⟩ (.int .i64 o.clk)).setCell ⟨B, 4, none⟩ (.int .i64 o.res)).setCell ⟨B, 5, none⟩ (.int .i64 o.err)) := ⟨_, rfl⟩
      have boxf := (heap_set (heap_set (heap_set (heap_set (heap_set (heap_set xBi 0 (.slice AP o.pr.length cP)) 1 (.slice AK o.ke.length cK)) 2 (.slice AC o.cl.length cC)) 3 (.int .i64 o.clk)) 4 (.int .i64 o.res)) 5 (.int .i64 o.err))
      rw [← hwf] at boxf
      have hcf : Chg (fun k => k = B) y3 wf := by rw [hwf]; exact ((((((Chg.refl _ _).then (Chg.set_cell ⟨B, 0, none⟩ _)).then (Chg.set_cell ⟨B, 1, none⟩ _)).then (Chg.set_cell ⟨B, 2, none⟩ _)).then (Chg.set_cell ⟨B, 3, none⟩ _)).then (Chg.set_cell ⟨B, 4, none⟩ _)).then (Chg.set_cell ⟨B, 5, none⟩ _)
      have hbi : Below W.heap.size W y3 := bel_trans HB1.out (bel_trans (bel_trans (bel_trans hcd bA) bF) bR)
      have hB1 : w1.heap.size ≤ B := by have := HEB.out; have := hcd.size; omega
      have hBW : W.heap.size ≤ B := by have := HEB.out; have := (bel_trans HB1.out hcd).size; omega
      have hne : ∀ V ∈ [Value.slice AP o.pr.length cP, Value.slice AK o.ke.length cK, Value.slice AC o.cl.length cC], ∀ k, V.ownBlock = some k → ¬ k = B := fun V hV k hk => by
        obtain ⟨_, _, _, _, _, _, e, hfr2⟩ := hfr
        injection e with e
        simp only [Array.mk.injEq, List.cons.injEq, and_true] at e
        obtain ⟨rfl, rfl, rfl, _⟩ := e
        have h := hfr2 V hV k hk
        have := HEB.out; have := lt_of_heap xB; have := bF.size; omega
      have hbx : BoxO W wf B (fewv fs) i0 i1 F quota o := ⟨_, _, _, _, _, _, boxf, np.keptX hcf (hne _ (by simp)), nk.keptX hcf (hne _ (by simp)), nc.keptX hcf (hne _ (by simp)), hrun, hbi.trans (hcf.below (B := W.heap.size) (fun k e => by have e : k = B := e; rw [e]; exact hBW) hbi.size)⟩
      go_simp
      rw [← hwf]
      refine hK _ _ ⟨fun _ => HSK.out wf ((bel_trans (bel_trans (bel_trans hcd bA) bF) bR).trans (hcf.below (B := w1.heap.size) (fun k e => by have e : k = B := e; rw [e]; exact hB1) (bel_trans (bel_trans (bel_trans hcd bA) bF) bR).size)), ?_⟩
      clear hK K hS hwf u0 u1 u2 u3 u4 u5 f0 f1 f2 f3 f4 f5
      try simp only [Act.put, List.setIfInBounds_toArray, List.set_cons_succ, List.set_cons_zero]
      refine tree_end ?_
      refine hK' _ _ (Met.intro (hJ _ _ ?_))
      (repeat apply Exists.intro)
      refine ⟨?rel, rfl⟩
      case rel => exact ⟨B, o, rfl, Lib.hid hbx⟩
  obtain ⟨B, o, rfl, HBX⟩ := hcut
  obtain ⟨AP, cP, AK, cK, AC, cC, hB, _, _, hcl, hro, hbel⟩ := HBX.out
  obtain ⟨l1, l2, l3, l4⟩ := runO_bounds hro HFB.out.1 HFB.out.2
  obtain ⟨_, hnc, hcm, hget⟩ := hcl.get
  have m2 := cell_of_block hB 2
  have m3 := cell_of_block hB 3
  have m4 := cell_of_block hB 4
  have m5 := cell_of_block hB 5
  simp at m2 m3 m4 m5
  obtain ⟨pr, ke, cl, clk, res, err⟩ := o
  simp only at l1 l2 l3 l4 hnc hget m2 m3 m4 m5
  obtain ⟨n, hn⟩ : ∃ n, n = cl.length := ⟨_, rfl⟩
  have hn63 : n ≤ 9223372036854775807 := by unfold maxLen at hcm; omega
  have HG := Lib.hid hget
  have HN := Lib.hid hn
  have H1 := Lib.hid l1
  have H2 := Lib.hid l2
  have H3 := Lib.hid l3
  have H4 := Lib.hid l4
  have HBE := Lib.hid hbel
  rw [← hn] at m2 hnc
  have hFb := HFB.out
  clear hB hcl hro hbel l1 l2 l3 l4 hget hn hcm HBX
  go_wp2_with fail
  go_loopg [11, 12] n (fun gk la i wr => ∃ j : Nat, j ≤ n ∧ gk = n - j ∧ la = .int .i64 ((0 :: cl).getD j 0) ∧ i = .int .i64 j ∧ wr = wc)
  case atStart => exact ⟨0, by omega, rfl, rfl, rfl, rfl⟩
  case round =>
    obtain ⟨j, hj, hk, rfl, rfl, rfl⟩ := hrel
    have HKK := Lib.hid hk
    clear hk
    by_cases hlt : j < n
    · have hjl : j < cl.length := by rw [← HN.out]; exact hlt
      obtain ⟨bb, off, rfl, cj⟩ := HG.out j hjl
      have hlast : (0 :: cl).getD j 0 < cl[j] := by
        have h := List.pairwise_iff_getElem.1 H1.out j (j + 1) (by simp; omega) (by simp; omega) (by omega)
        rw [List.getD_eq_getElem?_getD, List.getElem?_eq_getElem (by simp; omega)]
        simpa using h
      have hle := H2.out _ (List.getElem_mem hjl)
      have hnext : (0 :: cl).getD (j + 1) 0 = cl[j] := by
        rw [List.getD_eq_getElem?_getD, List.getElem?_cons_succ, List.getElem?_eq_getElem hjl]; rfl
      obtain ⟨z, hz⟩ : ∃ z, z = cl[j] := ⟨_, rfl⟩
      rw [← hz] at cj hlast hle hnext
      obtain ⟨la, hla⟩ : ∃ la, la = (0 :: cl).getD j 0 := ⟨_, rfl⟩
      rw [← hla] at hlast ⊢
      have HNX := Lib.hid hnext
      clear hz hla hnext hjl
      go_wp2_with fail
      go_roundg (n - (j + 1))
      case measure => have := HKK.out; omega
      case rel => exact ⟨j + 1, by omega, rfl, by rw [HNX.out], by go_num, rfl⟩
    · have hlastm : (0 :: cl).getD j 0 = 0 ∨ (0 :: cl).getD j 0 ∈ cl := by
        have hjj : j < (0 :: cl).length := by simp; have := HN.out; omega
        rw [List.getD_eq_getElem?_getD, List.getElem?_eq_getElem hjj]
        have h := List.getElem_mem hjj
        show (0 :: cl)[j] = 0 ∨ (0 :: cl)[j] ∈ cl
        exact List.mem_cons.1 h
      obtain ⟨la, hla⟩ : ∃ la, la = (0 :: cl).getD j 0 := ⟨_, rfl⟩
      rw [← hla] at hlastm ⊢
      clear hla
      by_cases h6 : err = 6
      · obtain rfl := h6
        have h0 : clk = 0 := H3.out rfl
        subst h0
        clear hlastm
        go_wp2_with fail
        go_ret
        exact ⟨rfl, HBE.out⟩
      · obtain ⟨a1, a2, a3, a4, a5⟩ := H4.out h6
        have hlc : la ≤ clk := by
          rcases hlastm with h | h
          · omega
          · exact a1 la h
        clear a1 hlastm
        by_cases h8 : err = 8
        · obtain rfl := h8
          have hcf : F < clk := a4.2 rfl
          have hr0 : res = 0 := by rcases a5 with h | h; · omega
                                   · exact h
          subst hr0
          clear a4 a5
          go_wp2_with fail
          go_ret
          exact ⟨rfl, HBE.out⟩
        · have hcf : ¬ F < clk := fun h => h8 (a4.1 h)
          have hcf2 : clk ≤ F := by omega
          clear a4
          have H8 := Lib.hid h8
          by_cases h0 : err = 0
          · obtain rfl := h0
            clear a5
            go_wp2_with fail
            go_ret
            exact ⟨by first | rfl | (simp [h8]) | (have h9 := H8.out; simp [h9]), HBE.out⟩
          · have hr0 : res = 0 := by rcases a5 with h | h; · omega
                                     · exact h
            subst hr0
            clear a5
            go_wp2_with fail
            go_ret
            exact ⟨by first | rfl | (simp [h8]) | (have h9 := H8.out; simp [h9]), HBE.out⟩
end Go.Proofs.YtdpimkbdieafgaaDoor
