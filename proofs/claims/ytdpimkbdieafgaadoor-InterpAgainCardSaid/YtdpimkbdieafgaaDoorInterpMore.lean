/- InterpMore: the walk. -/
import Derived.Test.YtdpimkbdieafgaaDoorIntMo
import Derived.Test.YtdpimkbdieafgaaDoorInterpBounds
namespace Go.Proofs.YtdpimkbdieafgaaDoor
set_option linter.unusedVariables false
set_option linter.unusedSimpArgs false
open Go.RowKit

/-- a box that holds a slice is none of the row's blocks -/
theorem ne_slice {w : World} {Q : Nat} {A : Option Addr} {n c : Nat} {t : TypeId} {fr : Nat × Nat} (hQ : w.heap[Q]? = some (.cells #[.slice A n c] t fr)) {b off : Nat} {u : Value} (h : w.cell? ⟨b, off, none⟩ = some u) (hu : ∀ A n c, u ≠ .slice A n c) : b ≠ Q := fun e => by
  subst e
  rw [cell_of_block hQ] at h
  have h : (#[Value.slice A n c] : Array Value)[off]? = some u := h
  have h0 : off = 0 := by
    have := (Array.getElem?_eq_some_iff.1 h).1
    simp at this
    exact this
  subst h0
  simp at h
  exact hu _ _ _ h.symm
theorem FnsIs.boxed {w w' : World} {V : Value} {fs : List FnR} (h : FnsIs w V fs) {Q : Nat} {A : Option Addr} {n c : Nat} {t : TypeId} {fr : Nat × Nat} (hQ : w.heap[Q]? = some (.cells #[.slice A n c] t fr)) (hc : Chg (fun k => k = Q) w w') : FnsIs w' V fs := by
  rcases h with h | ⟨b, off, cap, e, h1, h2, h3, h4⟩
  · exact .inl h
  · refine .inr ⟨b, off, cap, e, Nat.lt_of_lt_of_le h1 hc.size, h2, h3, fun j f hf => ?_⟩
    obtain ⟨B, d, ⟨c0, c1, c2, c3, c4⟩, hs⟩ := h4 j f hf
    have hb : b ≠ Q := ne_slice hQ c0 (fun _ _ _ h => by cases h)
    refine ⟨B, d, ⟨hc.cell c0 hb, hc.cell c1 hb, hc.cell c2 hb, hc.cell c3 hb, hc.cell c4 hb⟩, ?_⟩
    rcases hs with hs | ⟨b2, off2, cap2, e2, g1, g2, g3, g4⟩
    · exact .inl hs
    · refine .inr ⟨b2, off2, cap2, e2, Nat.lt_of_lt_of_le g1 hc.size, g2, g3, fun i u hu => ?_⟩
      have hu2 : ∃ z, u = .int .i64 z := by
        have hm := List.mem_of_getElem? hu
        unfold insCells at hm
        obtain ⟨x, _, hx⟩ := List.mem_flatMap.1 hm
        unfold InsR.cells at hx
        simp only [List.mem_cons, List.not_mem_nil, or_false] at hx
        rcases hx with rfl | rfl | rfl <;> exact ⟨_, rfl⟩
      obtain ⟨z, rfl⟩ := hu2
      exact hc.cell (g4 i _ hu) (ne_slice hQ (g4 i _ hu) (fun _ _ _ h => by cases h))

set_option maxHeartbeats 8000000 in
set_option maxRecDepth 100000 in
theorem interpMore_walk (W : World) (fs : List FnR) (cs : List Value) (x : List Int × List Int) (cs2 : List Value) (fuel0 more quota : Int) (hL : SortsIs W) (hf : rdCode.K W fs cs) (hx : rdInputs.K W x cs2) (wf : (Lit.int .i64 fuel0).wf = true) (wm : (Lit.int .i64 more).wf = true) (wq : (Lit.int .i64 quota).wf = true) :
    Calls Tryd.prog 5 #[.agg cs.toArray, .agg cs2.toArray, .int .i64 fuel0, .int .i64 more, .int .i64 quota] W fun e w' => e = .returned (.bool true) ∧ Below W.heap.size W w' := by
  have hf : CodeAt W fs cs := hf
  have hx : InputsAt W x cs2 := hx
  obtain ⟨A, c, rfl, hfs, _⟩ := hf
  obtain ⟨V0, V1, rfl, h0, h1, _, _⟩ := hx
  obtain ⟨i0, i1⟩ := x
  simp only at h0 h1
  simp only [List.toArray]
  obtain ⟨A0, d0, e0⟩ := h0.shape
  obtain ⟨A1, d1, e1⟩ := h1.shape
  obtain ⟨n0, hn0⟩ : ∃ n0, n0 = i0.length := ⟨_, rfl⟩
  obtain ⟨n1, hn1⟩ : ∃ n1, n1 = i1.length := ⟨_, rfl⟩
  obtain ⟨k, hk⟩ : ∃ k, k = fs.length := ⟨_, rfl⟩
  rw [← hn0] at e0
  rw [← hn1] at e1
  rw [← hk] at hfs ⊢
  subst e0 e1
  obtain ⟨F1, hF1⟩ : ∃ F1, (if fuel0 < 0 then 0 else fuel0) = F1 := ⟨_, rfl⟩
  obtain ⟨F, hF⟩ : ∃ F, (if 3000 < F1 then 3000 else F1) = F := ⟨_, rfl⟩
  obtain ⟨M1, hM1⟩ : ∃ M1, (if more < 0 then 0 else more) = M1 := ⟨_, rfl⟩
  obtain ⟨M, hM⟩ : ∃ M, (if 3000 < M1 then 3000 else M1) = M := ⟨_, rfl⟩
  have hFb : 0 ≤ F ∧ F ≤ 3000 := by split at hF1 <;> split at hF <;> omega
  have hMb : 0 ≤ M ∧ M ≤ 3000 := by split at hM1 <;> split at hM <;> omega
  have HMB := Lib.hid hMb
  obtain ⟨wa, hwa⟩ : ∃ z, z = W.alloc (.cells #[.slice A k c] 24) := ⟨_, rfl⟩
  obtain ⟨Q1, hQ1⟩ : ∃ z, z = W.heap.size := ⟨_, rfl⟩
  obtain ⟨w0, hw0⟩ : ∃ z, z = wa.alloc (.cells #[.slice A0 n0 d0, .slice A1 n1 d1] 27) := ⟨_, rfl⟩
  obtain ⟨Q2, hQ2⟩ : ∃ z, z = wa.heap.size := ⟨_, rfl⟩
  have e2 : Q2 = Q1 + 1 := by rw [hQ2, hwa, hQ1]; show (W.heap.push _).size = _; exact Array.size_push _
  have ca : Chg (fun _ => False) W wa := by rw [hwa]; exact (Chg.refl _ _).alloc _
  have c0 : Chg (fun _ => False) wa w0 := by rw [hw0]; exact (Chg.refl _ _).alloc _
  have x1 : w0.heap[Q1]? = some (.cells #[.slice A k c] 24 (0, 0)) := c0.heap (by rw [hwa]; exact heap_new' hQ1.symm) (fun x => x)
  have x2 : w0.heap[Q2]? = some (.cells #[.slice A0 n0 d0, .slice A1 n1 d1] 27 (0, 0)) := by rw [hw0]; exact heap_new' hQ2.symm
  have b0 : Below W.heap.size W w0 := (ca.then c0).below (fun k h => h.elim) (Nat.le_refl _)
  have CS := Lib.hid (shown_any (hL.keep b0))
  have HB0 := Lib.hid b0
  have HX := Lib.hid (And.intro x1 x2)
  have HWE := Lib.hid (And.intro hQ1 (And.intro hwa (And.intro e2 hw0)))
  have HLL := Lib.hid hL
  have HFS := Lib.hid hfs
  have HIN := Lib.hid (And.intro h0 h1)
  have HK := Lib.hid hk
  have HFB := Lib.hid hFb
  clear hQ1 hQ2 hwa e2 hw0 ca c0 x1 x2 b0 hL hfs h0 h1 hk hn0 hn1 wf wm wq
  go_enter Tryd.func5, Tryd.ntmps5
  go_upto_region 1 with fail
  rw [← HWE.out.1, ← HWE.out.2.1, ← HWE.out.2.2.1, ← HWE.out.2.2.2]
  go_wp2_with fail
  refine CS.out.mono ?_; rintro e w1 ⟨rfl, hb1⟩
  have hb01 := bel_trans HB0.out hb1
  have y1 := (Below.chg hb1).heap HX.out.1 (fun x => x)
  have k1 := cell_of_block y1 0
  simp at k1
  have CF := Lib.hid (few_any (HFS.out.keep hb01) HK.out)
  have HB1 := Lib.hid (And.intro hb01 (And.intro hb1 y1))
  clear hb01 CS hb1 y1
  go_upto_region 4 with fail
  clear hF1 hF hM1 hM
  go_wp2_with fail
  refine CF.out.mono ?_; rintro e w2 ⟨V, rfl, hV, hb2⟩
  obtain ⟨_, AV, cV, rfl⟩ := hV.bound
  have z1 := (Below.chg hb2).heap HB1.out.2.2 (fun x => x)
  have z2 := (Below.chg (bel_trans HB1.out.2.1 hb2)).heap HX.out.2 (fun x => x)
  have t1 := cell_of_block z1 0
  have f1 := frozen_of_block z1 0
  simp at t1
  obtain ⟨w3, hw3⟩ : ∃ z, z = w2.setCell ⟨Q1, 0, none⟩ (.slice AV (fewv fs).length cV) := ⟨_, rfl⟩
  have hset : Chg (fun k => k = Q1) w2 w3 := by rw [hw3]; exact Chg.set_cell (w := w2) ⟨Q1, 0, none⟩ _
  have hQ12 : Q1 ≠ Q2 := by have := HWE.out.2.2.1; omega
  have hQ1W : W.heap.size ≤ Q1 := by rw [HWE.out.1]; exact Nat.le_refl _
  have hb3 : Below W.heap.size W w3 := (bel_trans HB1.out.1 hb2).trans (hset.below (B := W.heap.size) (fun k e => by have e : k = Q1 := e; rw [e]; exact hQ1W) (bel_trans HB1.out.1 hb2).size)
  have x1 := heap_set z1 0 (.slice AV (fewv fs).length cV)
  rw [← hw3] at x1
  have x2 := hset.heap z2 (fun e => hQ12 e.symm)
  have hV3 := hV.boxed z1 hset
  have k1 := cell_of_block x1 0
  have k2 := cell_of_block x2 0
  have k3 := cell_of_block x2 1
  simp at k1 k2 k3
  have CR := Lib.hid (run_few (w := w3) (fuel := F) (quota := quota) (HLL.out.keep hb3) hV3 (HIN.out.1.keep hb3) (HIN.out.2.keep hb3) (by have := HFB.out; omega))
  have HW3 := Lib.hid hw3
  have H3 := Lib.hid (And.intro hb3 (And.intro x1 (And.intro x2 hV3)))
  clear CF hV hb2 z1 z2 hw3 hset hQ12 hQ1W hb3 x1 x2 hV3
  generalize (fewv fs).length = lf at *
  go_upto_region 5 with fail
  rw [← HW3.out]
  clear t1 f1
  go_wp2_with fail
  refine CR.out.mono ?_; rintro e w4 ⟨va, a, rfl, hoa, hra, hb4, _⟩
  obtain ⟨AP, cP, AK, cK, AC, cC, rfl, np, nk, nc⟩ := outIs_shape hoa
  obtain ⟨lp, hlp⟩ : ∃ l, l = a.pr.length := ⟨_, rfl⟩
  obtain ⟨lk, hlk⟩ : ∃ l, l = a.ke.length := ⟨_, rfl⟩
  obtain ⟨lc, hlc⟩ : ∃ l, l = a.cl.length := ⟨_, rfl⟩
  obtain ⟨aclk, haclk⟩ : ∃ l, l = a.clk := ⟨_, rfl⟩
  obtain ⟨ares, hares⟩ : ∃ l, l = a.res := ⟨_, rfl⟩
  obtain ⟨aerr, haerr⟩ : ∃ l, l = a.err := ⟨_, rfl⟩
  rw [← hlp] at np
  rw [← hlk] at nk
  rw [← hlc] at nc
  rw [← hlp, ← hlk, ← hlc, ← haclk, ← hares, ← haerr]
  have HA := Lib.hid (And.intro hlp (And.intro hlk (And.intro hlc (And.intro haclk (And.intro hares haerr)))))
  obtain ⟨w5, hw5⟩ : ∃ z, z = w4.alloc (.cells #[.slice AP lp cP, .slice AK lk cK, .slice AC lc cC, .int .i64 aclk, .int .i64 ares, .int .i64 aerr] 32) := ⟨_, rfl⟩
  obtain ⟨BA, hBA⟩ : ∃ z, z = w4.heap.size := ⟨_, rfl⟩
  have bA : Below w4.heap.size w4 w5 := by rw [hw5]; exact (Below.refl _ _).alloc (Nat.le_refl _) _
  have xA : w5.heap[BA]? = some (.cells #[.slice AP lp cP, .slice AK lk cK, .slice AC lc cC, .int .i64 aclk, .int .i64 ares, .int .i64 aerr] 32 (0, 0)) := by rw [hw5]; exact heap_new' hBA.symm
  have b35 := bel_trans hb4 bA
  have bW5 := bel_trans H3.out.1 b35
  have k1 := cell_of_block ((Below.chg b35).heap H3.out.2.1 (fun x => x)) 0
  have k2 := cell_of_block ((Below.chg b35).heap H3.out.2.2.1 (fun x => x)) 0
  have k3 := cell_of_block ((Below.chg b35).heap H3.out.2.2.1 (fun x => x)) 1
  simp at k1 k2 k3
  have CR2 := Lib.hid (run_few (w := w5) (fuel := F + M) (quota := quota) (HLL.out.keep bW5) (H3.out.2.2.2.keep b35) (HIN.out.1.keep bW5) (HIN.out.2.keep bW5) (by have := HFB.out; have := HMB.out; omega))
  have HW5 := Lib.hid (And.intro hw5 hBA)
  have HXA := Lib.hid (And.intro xA (And.intro bW5 (And.intro (np.keep bA) (And.intro (nk.keep bA) (And.intro (nc.keep bA) hra)))))
  clear CR hoa hra hb4 np nk nc hlp hlk hlc haclk hares haerr hw5 hBA bA xA b35 bW5
  go_upto_region 6 with fail
  rw [← HW5.out.1, ← HW5.out.2]
  go_wp2_with fail
  refine CR2.out.mono ?_; rintro e w6 ⟨vb, b, rfl, hob, hrb, hb6, _⟩
  obtain ⟨BP, eP, BK, eK, BC, eC, rfl, mp, mk, mc⟩ := outIs_shape hob
  obtain ⟨l2p, hlp⟩ : ∃ l, l = b.pr.length := ⟨_, rfl⟩
  obtain ⟨l2k, hlk⟩ : ∃ l, l = b.ke.length := ⟨_, rfl⟩
  obtain ⟨l2c, hlc⟩ : ∃ l, l = b.cl.length := ⟨_, rfl⟩
  obtain ⟨bclk, hbclk⟩ : ∃ l, l = b.clk := ⟨_, rfl⟩
  obtain ⟨bres, hbres⟩ : ∃ l, l = b.res := ⟨_, rfl⟩
  obtain ⟨berr, hberr⟩ : ∃ l, l = b.err := ⟨_, rfl⟩
  rw [← hlp] at mp
  rw [← hlk] at mk
  rw [← hlc] at mc
  rw [← hlp, ← hlk, ← hlc, ← hbclk, ← hbres, ← hberr]
  obtain ⟨w7, hw7⟩ : ∃ z, z = w6.alloc (.cells #[.slice BP l2p eP, .slice BK l2k eK, .slice BC l2c eC, .int .i64 bclk, .int .i64 bres, .int .i64 berr] 32) := ⟨_, rfl⟩
  obtain ⟨BB, hBB⟩ : ∃ z, z = w6.heap.size := ⟨_, rfl⟩
  have bB : Below w6.heap.size w6 w7 := by rw [hw7]; exact (Below.refl _ _).alloc (Nat.le_refl _) _
  have xB : w7.heap[BB]? = some (.cells #[.slice BP l2p eP, .slice BK l2k eK, .slice BC l2c eC, .int .i64 bclk, .int .i64 bres, .int .i64 berr] 32 (0, 0)) := by rw [hw7]; exact heap_new' hBB.symm
  have b57 := bel_trans hb6 bB
  have bW7 := bel_trans HXA.out.2.1 b57
  have xA7 := (Below.chg b57).heap HXA.out.1 (fun x => x)
  have np := HXA.out.2.2.1.keep b57
  have nk := HXA.out.2.2.2.1.keep b57
  have nc := HXA.out.2.2.2.2.1.keep b57
  have mp := mp.keep bB
  have mk := mk.keep bB
  have mc := mc.keep bB
  have hmore := runO_more HXA.out.2.2.2.2.2 hrb HFB.out.1 (by have := HMB.out; omega) (by have := HFB.out; have := HMB.out; omega)
  have oA : OutIs w7 (.agg #[.slice AP lp cP, .slice AK lk cK, .slice AC lc cC, .int .i64 aclk, .int .i64 ares, .int .i64 aerr]) a := ⟨_, _, _, by rw [HA.out.2.2.2.1, HA.out.2.2.2.2.1, HA.out.2.2.2.2.2], np, nk, nc⟩
  have oB : OutIs w7 (.agg #[.slice BP l2p eP, .slice BK l2k eK, .slice BC l2c eC, .int .i64 bclk, .int .i64 bres, .int .i64 berr]) b := ⟨_, _, _, by rw [hbclk, hbres, hberr], mp, mk, mc⟩
  have CSM := Lib.hid (same_any oA oB)
  have p0 := cell_of_block xA7 0
  have p1 := cell_of_block xA7 1
  have p2 := cell_of_block xA7 2
  have p3 := cell_of_block xA7 3
  have p4 := cell_of_block xA7 4
  have p5 := cell_of_block xA7 5
  have q0 := cell_of_block xB 0
  have q1 := cell_of_block xB 1
  have q2 := cell_of_block xB 2
  have q3 := cell_of_block xB 3
  have q4 := cell_of_block xB 4
  have q5 := cell_of_block xB 5
  simp at p0 p1 p2 p3 p4 p5 q0 q1 q2 q3 q4 q5
  have HN := Lib.hid (And.intro np (And.intro nk (And.intro nc (And.intro mp (And.intro mk mc)))))
  have HMO := Lib.hid hmore
  have HBC := Lib.hid (And.intro hbclk hbres)
  have HBW := Lib.hid bW7
  have HW7 := Lib.hid (And.intro hw7 hBB)
  clear CR2 hob hrb hb6 np nk nc mp mk mc hlp hlk hlc hbclk hbres hberr hw7 hBB bB xB b57 bW7 xA7 hmore oA oB k1 k2 k3
  go_upto_region 7 with fail
  rw [← HW7.out.1, ← HW7.out.2]
  by_cases h8 : aerr = 8
  · obtain rfl := h8
    obtain ⟨g1, g2, g3, g4⟩ := HMO.out.2 HA.out.2.2.2.2.2.symm
    have CB1 := Lib.hid (begins_any HN.out.1 HN.out.2.2.2.1 g1)
    have CB2 := Lib.hid (fun k => begins_any (HN.out.2.1.drewN k) (HN.out.2.2.2.2.1.drewN k) g2)
    have CB3 := Lib.hid (fun k => begins_any (HN.out.2.2.1.drewN k) (HN.out.2.2.2.2.2.drewN k) g3)
    have hcc : aclk ≤ bclk := by rw [HA.out.2.2.2.1, HBC.out.1]; exact g4
    clear g1 g2 g3 g4
    go_wp2_with fail
    refine CB1.out.mono ?_; rintro e w8 ⟨rfl, n1, rfl⟩
    go_wp2_with fail
    refine (CB2.out _).mono ?_; rintro e w8 ⟨rfl, n2, rfl⟩
    go_wp2_with fail
    refine (CB3.out _).mono ?_; rintro e w8 ⟨rfl, n3, rfl⟩
    go_wp2_with fail
    go_ret
    exact ⟨rfl, belowN HBW.out _⟩
  · have hs : sameV a b = true := by
      have e := HMO.out.1 (fun h => h8 (HA.out.2.2.2.2.2.trans h))
      rw [← e]
      exact sameV_refl a
    rw [hs] at CSM
    clear hs
    go_wp2_with fail
    refine CSM.out.mono ?_; rintro e w8 ⟨rfl, hb8⟩
    have HB8 := Lib.hid (bel_trans HBW.out hb8)
    clear hb8 CSM
    go_wp2_with fail
    go_ret
    exact ⟨rfl, HB8.out⟩
end Go.Proofs.YtdpimkbdieafgaaDoor
