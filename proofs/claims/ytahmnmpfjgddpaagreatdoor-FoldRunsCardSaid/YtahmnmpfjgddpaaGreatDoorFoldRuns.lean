/- law16: FoldRuns. -/
import Derived.Test.YtahmnmpfjgddpaaGreatDoorRAll2
import Derived.Test.YtahmnmpfjgddpaaGreatDoorIntRd
import Derived.Test.YtahmnmpfjgddpaaGreatDoorFoldShown
import Derived.Test.YtahmnmpfjgddpaaGreatDoorFoldLe
namespace Go.Proofs.YtahmnmpfjgddpaaGreatDoor
set_option linter.unusedVariables false
set_option linter.unusedSimpArgs false
open Go.RowKit

structure OwnIs (W wr : World) (Q1 Q2 Q3 : Nat) (Vc I0 I1 Vo : Value) (fs : List FnR) (j : Nat) : Prop where
  x1 : wr.heap[Q1]? = some (.cells #[Vc] 24 (0, 0))
  x2 : wr.heap[Q2]? = some (.cells #[I0, I1] 27 (0, 0))
  x3 : wr.heap[Q3]? = some (.cells #[Vo] 24 (0, 0))
  row : ∃ xs, wr.ownsRow 0 31 5 Vo j xs ∧ FnCells W (fewv (fs.take j)) xs
  far : ∀ k, Vo.ownBlock = some k → Q3 < k
  bel : Below W.heap.size W wr
/-- the end: what stays behind the loop -/
structure Own2 (W wr : World) (Q2 Q3 : Nat) (I0 I1 Vo : Value) (fs : List FnR) : Prop where
  x2 : wr.heap[Q2]? = some (.cells #[I0, I1] 27 (0, 0))
  x3 : wr.heap[Q3]? = some (.cells #[Vo] 24 (0, 0))
  fns : FnsIs wr Vo (fewv fs)
  bel : Below W.heap.size W wr
theorem Own2.keep {W wr w' : World} {Q2 Q3 : Nat} {I0 I1 Vo : Value} {fs : List FnR} (h : Own2 W wr Q2 Q3 I0 I1 Vo fs) (hb : Below wr.heap.size wr w') : Own2 W w' Q2 Q3 I0 I1 Vo fs :=
  ⟨(Below.chg hb).heap h.x2 (fun x => x), (Below.chg hb).heap h.x3 (fun x => x), h.fns.keep hb, h.bel.trans (hb.mono h.bel.size)⟩
theorem OwnIs.fin {W wr : World} {Q1 Q2 Q3 : Nat} {Vc I0 I1 Vo : Value} {fs : List FnR} {j : Nat} (h : OwnIs W wr Q1 Q2 Q3 Vc I0 I1 Vo fs j) (hj : j ≤ fs.length) (h6 : j ≤ 6) (he : fewv (fs.take j) = fewv fs) : Own2 W wr Q2 Q3 I0 I1 Vo fs := by
  obtain ⟨xs, hown, hcl⟩ := h.row
  have hln := fewv_len (fs := fs) hj h6
  rw [he] at hln hcl
  exact ⟨h.x2, h.x3, FnsIs.of_row (by rw [hln]; exact hown) (hcl.keep h.bel), h.bel⟩
theorem fewv_full {fs : List FnR} (h : ∀ f ∈ fs, ∀ x ∈ f.l, Full x) : (fewv fs).length ≤ 1000 ∧ ∀ f ∈ fewv fs, f.l.length ≤ 1048576 ∧ ∀ x ∈ f.l, WfI x := by
  refine ⟨?_, fun f hf => ⟨(fewv_bound fs).2 f hf, fun x hx => ?_⟩⟩
  · unfold fewv; rw [List.length_map, List.length_take]; omega
  · unfold fewv at hf
    obtain ⟨g, hg, rfl⟩ := List.mem_map.1 hf
    exact (h g (List.mem_of_mem_take hg) x (List.mem_of_mem_take hx)).wf

set_option maxHeartbeats 8000000 in
set_option maxRecDepth 100000 in
theorem foldRuns_walk (W : World) (fs : List FnR) (cs : List Value) (x : List Int × List Int) (cs2 : List Value) (fuel0 quota : Int) (hL : SortsIs W) (hf : rdCode.K W fs cs) (hx : rdInputs.K W x cs2) (wf : (Lit.int .i64 fuel0).wf = true) (wq : (Lit.int .i64 quota).wf = true) :
    Calls Tryz.prog 3 #[.agg cs.toArray, .agg cs2.toArray, .int .i64 fuel0, .int .i64 quota] W fun e w' => e = .returned (.bool true) ∧ Below W.heap.size W w' := by
  have hf : CodeAt W fs cs := hf
  have hx : InputsAt W x cs2 := hx
  obtain ⟨A, c, rfl, hfs, hfull⟩ := hf
  obtain ⟨V0, V1, rfl, h0, h1, _, _⟩ := hx
  obtain ⟨i0, i1⟩ := x
  simp only at h0 h1
  simp only [List.toArray]
  obtain ⟨A0, d0, e0⟩ := h0.shape
  obtain ⟨A1, d1, e1⟩ := h1.shape
  obtain ⟨n0, hn0⟩ : ∃ n0, n0 = i0.length := ⟨_, rfl⟩
  obtain ⟨n1, hn1⟩ : ∃ n1, n1 = i1.length := ⟨_, rfl⟩
  obtain ⟨n, hn⟩ : ∃ k, k = fs.length := ⟨_, rfl⟩
  have hnm : n ≤ 9223372036854775807 := by have := hfs.bound.1; unfold maxLen at this; omega
  rw [← hn0] at e0
  rw [← hn1] at e1
  rw [← hn] at hfs ⊢
  subst e0 e1
  obtain ⟨F1, hF1⟩ : ∃ F1, (if fuel0 < 0 then 0 else fuel0) = F1 := ⟨_, rfl⟩
  obtain ⟨F, hF⟩ : ∃ F, (if 3000 < F1 then 3000 else F1) = F := ⟨_, rfl⟩
  have hFb : 0 ≤ F ∧ F ≤ 3000 := by split at hF1 <;> split at hF <;> omega
  obtain ⟨wa, hwa⟩ : ∃ z, z = W.alloc (.cells #[.slice A n c] 24) := ⟨_, rfl⟩
  obtain ⟨Q1, hQ1⟩ : ∃ z, z = W.heap.size := ⟨_, rfl⟩
  obtain ⟨w0, hw0⟩ : ∃ z, z = wa.alloc (.cells #[.slice A0 n0 d0, .slice A1 n1 d1] 27) := ⟨_, rfl⟩
  obtain ⟨Q2, hQ2⟩ : ∃ z, z = wa.heap.size := ⟨_, rfl⟩
  have e2 : Q2 = Q1 + 1 := by rw [hQ2, hwa, hQ1]; show (W.heap.push _).size = _; exact Array.size_push _
  have ca : Chg (fun _ => False) W wa := by rw [hwa]; exact (Chg.refl _ _).alloc _
  have c0 : Chg (fun _ => False) wa w0 := by rw [hw0]; exact (Chg.refl _ _).alloc _
  have x1 : w0.heap[Q1]? = some (.cells #[.slice A n c] 24 (0, 0)) := c0.heap (by rw [hwa]; exact heap_new' hQ1.symm) (fun x => x)
  have x2 : w0.heap[Q2]? = some (.cells #[.slice A0 n0 d0, .slice A1 n1 d1] 27 (0, 0)) := by rw [hw0]; exact heap_new' hQ2.symm
  have b0 : Below W.heap.size W w0 := (ca.then c0).below (fun k h => h.elim) (Nat.le_refl _)
  have CS := Lib.hid (shown16_any (hL.keep b0))
  have HB0 := Lib.hid b0
  have HX := Lib.hid (And.intro x1 x2)
  have HWE := Lib.hid (And.intro hQ1 (And.intro hwa (And.intro e2 hw0)))
  have HLL := Lib.hid hL
  have HFS := Lib.hid hfs
  have HFU := Lib.hid hfull
  have HIN := Lib.hid (And.intro h0 h1)
  have HN := Lib.hid hn
  have HFB := Lib.hid hFb
  have HFE := Lib.hid (And.intro hF1 hF)
  clear hQ1 hQ2 hwa e2 hw0 ca c0 x1 x2 b0 hL hfs hfull h0 h1 hn hn0 hn1 wf wq hF1 hF hFb
  go_enter Tryz.func3, Tryz.ntmps3
  go_upto_region 1 with fail
  rw [← HWE.out.1, ← HWE.out.2.1, ← HWE.out.2.2.1, ← HWE.out.2.2.2]
  go_wp2_with fail
  refine CS.out.mono ?_; rintro e w1 ⟨rfl, hb1⟩
  obtain ⟨w2, hw2⟩ : ∃ z, z = w1.alloc (.cells #[.slice none 0 0] 24) := ⟨_, rfl⟩
  obtain ⟨Q3, hQ3⟩ : ∃ z, z = w1.heap.size := ⟨_, rfl⟩
  have c2 : Chg (fun _ => False) w1 w2 := by rw [hw2]; exact (Chg.refl _ _).alloc _
  have hst : OwnIs W w2 Q1 Q2 Q3 (.slice A n c) (.slice A0 n0 d0) (.slice A1 n1 d1) (.slice none 0 0) fs 0 :=
    ⟨c2.heap ((Below.chg hb1).heap HX.out.1 (fun x => x)) (fun x => x), c2.heap ((Below.chg hb1).heap HX.out.2 (fun x => x)) (fun x => x), by rw [hw2]; exact heap_new' hQ3.symm, ⟨[], World.ownsRow_nil _ _ _ _, fun j f hf => by simp [fewv] at hf⟩, (fun k h => by cases h), (bel_trans HB0.out hb1).trans (c2.below (fun _ x => x.elim) (bel_trans HB0.out hb1).size)⟩
  have HST := Lib.hid hst
  have HQ12 : Hid (Q1 < Q3 ∧ Q2 < Q3 ∧ W.heap.size ≤ Q1 ∧ Q2 = Q1 + 1) := Lib.hid ⟨by rw [hQ3]; exact lt_of_heap ((Below.chg hb1).heap HX.out.1 (fun x => x)), by rw [hQ3]; exact lt_of_heap ((Below.chg hb1).heap HX.out.2 (fun x => x)), by rw [HWE.out.1]; exact Nat.le_refl _, HWE.out.2.2.1⟩
  have HW2 := Lib.hid (And.intro hw2 hQ3)
  clear hst c2 hw2 hQ3 hb1 CS
  go_upto_region 3 with fail
  rw [← HW2.out.1, ← HW2.out.2]
  go_wp2_with fail
  go_loopg [11] 7 (fun k i wr => ∃ (j : Nat) (Vo : Value), j ≤ n ∧ j ≤ 6 ∧ k = 7 - j ∧ i = .int .i64 j ∧ Hid (OwnIs W wr Q1 Q2 Q3 (.slice A n c) (.slice A0 n0 d0) (.slice A1 n1 d1) Vo fs j))
  case atStart => exact ⟨0, _, by omega, by omega, rfl, rfl, HST⟩
  case round =>
    obtain ⟨j, Vo, hjn, hj6, hk, rfl, HI⟩ := hrel
    have HK := Lib.hid hk
    clear hk
    have y1 := cell_of_block HI.out.x1 0
    simp at y1
    by_cases hlt : j < n ∧ j < 6
    · have hjl := hlt.1
      have hj := hlt.2
      clear hlt
      have hjf : j < fs.length := by rw [← HN.out]; exact hjl
      obtain ⟨b, off, cap, B, cB, e, hb, hcap, ⟨q0, q1, q2, q3, q4⟩, hsrc⟩ := HFS.out.get j hjf
      injection e with e1 e3 e2
      subst e1 e2
      clear e3
      have hkc := Below.chg HI.out.bel
      have q0 := hkc.cell q0 (fun x => x)
      have q1 := hkc.cell q1 (fun x => x)
      have q2 := hkc.cell q2 (fun x => x)
      have q3 := hkc.cell q3 (fun x => x)
      have q4 := hkc.cell q4 (fun x => x)
      obtain ⟨f, hf⟩ : ∃ f, f = fs[j] := ⟨_, rfl⟩
      rw [← hf] at q0 q1 q2 q3 q4 hsrc
      obtain ⟨nm, ps, vs, ar, l⟩ := f
      simp only at q0 q1 q2 q3 q4 hsrc
      obtain ⟨ln, hln⟩ : ∃ ln, ln = l.length := ⟨_, rfl⟩
      obtain ⟨m2, hm2⟩ : ∃ m2 : Nat, (if (200 : Int) < (ln : Int) then (200 : Int) else (ln : Int)) = (m2 : Int) := ⟨(if (200 : Int) < (ln : Int) then (200 : Int) else (ln : Int)).toNat, by split <;> omega⟩
      have hm3 : min (ln : Int) 200 = (m2 : Int) := by split at hm2 <;> omega
      have hm2l : m2 ≤ ln ∧ m2 ≤ 200 ∧ (m2 = 200 ∨ m2 = ln) := by split at hm2 <;> omega
      have hcp := hsrc.cap
      have hst := hsrc.takeI m2 (by rw [← hln]; exact hm2l.1)
      rw [← hln] at q4 hcp
      rw [← HN.out] at hcap
      obtain ⟨w1, hw1⟩ : ∃ z, z = wr.alloc (.cells #[.string nm, .int .i64 ps, .int .i64 vs, .int .i64 ar, .slice B ln cB] 31) := ⟨_, rfl⟩
      obtain ⟨P, hP⟩ : ∃ z, z = wr.heap.size := ⟨_, rfl⟩
      have d1 : Chg (fun _ => False) wr w1 := by rw [hw1]; exact (Chg.refl _ _).alloc _
      have p1 : w1.heap[P]? = some (.cells #[.string nm, .int .i64 ps, .int .i64 vs, .int .i64 ar, .slice B ln cB] 31 (0, 0)) := by rw [hw1]; exact heap_new' hP.symm
      have t4 := cell_of_block p1 4
      have ff4 := frozen_of_block p1 4
      obtain ⟨w2, hw2⟩ : ∃ z, z = w1.setCell ⟨P, 4, none⟩ (.slice B m2 cB) := ⟨_, rfl⟩
      have d2 : Chg (fun k => k = P) w1 w2 := by rw [hw2]; exact Chg.set_cell (w := w1) ⟨P, 4, none⟩ _
      have p2 := heap_set p1 4 (.slice B m2 cB)
      rw [← hw2] at p2
      have s0 := cell_of_block p2 0
      have s1 := cell_of_block p2 1
      have s2 := cell_of_block p2 2
      have s3 := cell_of_block p2 3
      have s4 := cell_of_block p2 4
      have hQP : Q3 < P := by rw [hP]; exact lt_of_heap HI.out.x3
      have z3 := cell_of_block (d2.heap (d1.heap HI.out.x3 (fun x => x)) (fun e => by omega)) 0
      simp at t4 s0 s1 s2 s3 s4 z3
      have hcl : cB ≤ 9223372036854775807 ∨ True := .inr trivial
      have HW := Lib.hid (And.intro hw1 (And.intro hP hw2))
      have HD := Lib.hid (And.intro d1 d2)
      have HF := Lib.hid (And.intro hf hln)
      have HS := Lib.hid (And.intro hsrc hst)
      have HM := Lib.hid hm2l
      have hm2c : m2 ≤ cB := by omega
      have hmm := hm2l.1
      have hln63 : ln ≤ 9223372036854775807 := by have := hcp.1; unfold maxLen at this; omega
      clear hw1 hP hw2 d1 d2 hf hln hsrc hst hm2l hcl p1 p2 hb hcp hkc
      go_upto_region 7 with fail
      rw [← HW.out.1, ← HW.out.2.1]
      clear q0 q1 q2 q3 q4 y1 hcap
      go_upto_region 8 with fail
      rw [← HW.out.2.2]
      obtain ⟨xs, hown, hcl⟩ := HI.out.row
      have d12 : Chg (fun k => k = P) wr w2 := (HD.out.1.mono (fun _ _ x => x.elim)).then HD.out.2
      have hVP : ∀ k, Vo.ownBlock = some k → k ≠ P := fun k hk e => by
        have h1 := ownsRow_lt hown k hk
        rw [e, HW.out.2.1] at h1
        omega
      have hown2 := ownsRow_kept hown d12 (fun k hk e => hVP k hk e)
      have hPw : W.heap.size ≤ P := by rw [HW.out.2.1]; exact HI.out.bel.size
      have hb2 : Below W.heap.size wr w2 := d12.below (fun k e => by rw [e]; exact hPw) HI.out.bel.size
      obtain ⟨_, AV, cV, rfl⟩ := ownsRow_slice hown
      obtain ⟨wx, hwx⟩ : ∃ z, z = w2.alloc (.cells #[.string nm, .int .i64 ps, .int .i64 vs, .int .i64 ar, .slice B m2 cB] 31) := ⟨_, rfl⟩
      have hcx : Chg (fun _ => False) w2 wx := by rw [hwx]; exact (Chg.refl _ _).alloc _
      have HROW : Hid (wx.ownsRow 0 31 5 (.slice AV j cV) j xs) := Lib.hid (ownsRow_kept hown2 hcx (fun _ _ x => x))
      have HNEW : Hid (∀ (i : Nat) u, ([.string nm, .int .i64 ps, .int .i64 vs, .int .i64 ar, .slice B m2 cB] : List Value)[i]? = some u → wx.cell? ((⟨w2.heap.size, 0, none⟩ : Addr).add i) = some u) := Lib.hid (World.news_of_block (cs := #[.string nm, .int .i64 ps, .int .i64 vs, .int .i64 ar, .slice B m2 cB]) (t := 31) (fr := (0, 0)) (by rw [hwx]; exact heap_new _ _))
      have HSZ : Hid (wx.heap.size = w2.heap.size + 1) := Lib.hid (by rw [hwx]; simp)
      obtain ⟨i0, hi, hz0, hz1, hz2⟩ := info_parts infoFn
      have g1 := HI.out.x1
      have g2 := HI.out.x2
      have g3 := HI.out.x3
      have lt3 := lt_of_heap g3
      have hwP : P = wr.heap.size := HW.out.2.1
      have hQ := HQ12.out
      have dx : Chg (fun k => k = P) wr wx := d12.then (hcx.mono (fun _ _ x => x.elim))
      have HG : Hid (wx.heap[Q1]? = some (.cells #[.slice (some ⟨b, off, none⟩) n c] 24 (0, 0)) ∧ wx.heap[Q2]? = some (.cells #[.slice A0 n0 d0, .slice A1 n1 d1] 27 (0, 0)) ∧ wx.heap[Q3]? = some (.cells #[.slice AV j cV] 24 (0, 0))) := Lib.hid ⟨dx.heap g1 (fun e => by omega), dx.heap g2 (fun e => by omega), dx.heap g3 (fun e => by omega)⟩
      have HX2 := Lib.hid (And.intro hb2 (And.intro hcl (And.intro hwP (And.intro lt3 (And.intro hcx hPw)))))
      have HVF := Lib.hid HI.out.far
      have HWX := Lib.hid hwx
      clear hown hcl d12 hVP hown2 hPw hb2 hwx hcx g1 g2 g3 lt3 hwP hQ dx
      go_wp2_with (at_builtin; rw [← HWX.out]; refine wpList_append_lies _ rfl _ _ _ rfl 0 31 i0 _ 5 64 Tryz.underlying22 hi hz0 hz1 hz2 rfl (by omega) (.slice AV j cV) j xs rfl HROW.out ⟨w2.heap.size, 0, none⟩ 1 1 [.string nm, .int .i64 ps, .int .i64 vs, .int .i64 ar, .slice B m2 cB] rfl rfl HNEW.out (by simp [Value.oneCell']) (by omega) (by unfold maxLen; omega) (by omega) (by omega) (w2.heap.size + 1) HSZ.out ?_; intro g5 cap5 w5 hown5 hgrow5 hat5 hlt5; have hc5 := Chg.of_grown hgrow5; have hg5 : ∀ k, k ≤ Q3 → ¬ (Value.slice AV j cV).ownBlock = some k := (fun k hk e => by have := HVF.out k e; omega); have hb5 := hc5.heap HG.out.2.2 (hg5 Q3 (Nat.le_refl _)); have k0 := cell_of_block hb5 0; have kf := frozen_of_block hb5 0; simp at k0; have HC5 := Lib.hid (And.intro hown5 (And.intro hc5 (And.intro hat5 (And.intro hg5 (And.intro hb5 hlt5))))); clear hown5 hgrow5 hat5 hlt5 hc5 hg5 hb5)
      have hset := Chg.set_cell (w := w5) ⟨Q3, 0, none⟩ (.slice (some ⟨g5, 0, none⟩) (j + 1) cap5)
      have hg3 : Q3 < g5 := by
        have h1 := HX2.out.2.2.2.1
        have h2 := HX2.out.2.2.1
        rcases HC5.out.2.2.1 with e | e
        · exact HVF.out g5 e
        · have := HD.out.1.size
          have := HD.out.2.size
          omega
      have HN2 : Hid (OwnIs W (w5.setCell ⟨Q3, 0, none⟩ (.slice (some ⟨g5, 0, none⟩) (j + 1) cap5)) Q1 Q2 Q3 (.slice (some ⟨b, off, none⟩) n c) (.slice A0 n0 d0) (.slice A1 n1 d1) (.slice (some ⟨g5, 0, none⟩) (j + 1) cap5) fs (j + 1)) := Lib.hid (by
        have hQ := HQ12.out
        refine ⟨hset.heap (HC5.out.2.1.heap HG.out.1 (HC5.out.2.2.2.1 Q1 (by omega))) (fun e => by have e : Q1 = Q3 := e; omega), hset.heap (HC5.out.2.1.heap HG.out.2.1 (HC5.out.2.2.2.1 Q2 (by omega))) (fun e => by have e : Q2 = Q3 := e; omega), heap_set HC5.out.2.2.2.2.1 0 _, ⟨_, ownsRow_kept HC5.out.1 hset (fun k hk e => by
          have hk : some g5 = some k := hk
          have e : k = Q3 := e
          injection hk with hk
          omega), ?_⟩, fun k hk => by
          have hk : some g5 = some k := hk
          injection hk with hk
          omega, ?_⟩
        · have hjf : j < fs.length := by rw [← HN.out]; exact hjl
          rw [fewv_snoc hjf hj, ← HF.out.1]
          have hlen : (l.take 200).length = m2 := by
            rw [List.length_take, ← HF.out.2]
            have := HM.out
            omega
          have htk : l.take 200 = l.take m2 := by
            rcases HM.out.2.2 with e | e
            · rw [e]
            · rw [e, HF.out.2, List.take_length, List.take_of_length_le (by rw [← HF.out.2]; have := HM.out; omega)]
          have hs := HS.out.2
          rw [← htk] at hs
          have h := FnCells.snoc (f := ⟨nm, ps, vs, ar, l.take 200⟩) (A := B) (c := cB) HX2.out.2.1 (by rw [fewv_len (by omega) (by omega)]; exact HROW.out.1) (by simp only; rw [hlen]; exact hs)
          simp only at h
          rw [hlen] at h
          exact h
        · have h1 : Below W.heap.size wr w2 := HX2.out.1
          have h2 : Below W.heap.size w2 wx := HX2.out.2.2.2.2.1.below (fun k h => h.elim) (Nat.le_trans HI.out.bel.size h1.size)
          have h3 : Below W.heap.size wx w5 := HC5.out.2.1.below (fun k h => by have := HVF.out k h; omega) (Nat.le_trans (Nat.le_trans HI.out.bel.size h1.size) h2.size)
          have h4 : Below W.heap.size w5 (w5.setCell ⟨Q3, 0, none⟩ (.slice (some ⟨g5, 0, none⟩) (j + 1) cap5)) := hset.below (fun k h => by have h : k = Q3 := h; omega) (Nat.le_trans (Nat.le_trans (Nat.le_trans HI.out.bel.size h1.size) h2.size) h3.size)
          exact (((HI.out.bel.trans h1).trans h2).trans h3).trans h4)
      go_roundg (7 - (j + 1))
      case measure => have := HK.out; omega
      case rel => exact ⟨j + 1, _, by omega, by omega, rfl, by go_num, HN2⟩
    · have hen : fewv (fs.take j) = fewv fs := by
        rcases Nat.lt_or_ge j n with h | h
        · have h6 : j = 6 := by
            rcases Nat.lt_or_ge j 6 with h2 | h2
            · exact absurd ⟨h, h2⟩ hlt
            · omega
          unfold fewv; rw [List.take_take, h6, Nat.min_self]
        · rw [List.take_of_length_le (by rw [← HN.out]; exact h)]
      have hcs : (¬ (j : Int) < (n : Int)) ∨ ((j : Int) < (n : Int) ∧ ¬ (j : Int) < 6) := by
        by_cases h : j < n
        · exact .inr ⟨by omega, fun h2 => hlt ⟨h, by omega⟩⟩
        · exact .inl (by omega)
      have ho2 := HI.out.fin (by rw [← HN.out]; exact hjn) hj6 hen
      obtain ⟨xs, hown, _⟩ := HI.out.row
      obtain ⟨_, AV, cV, rfl⟩ := ownsRow_slice hown
      have hlf : (fewv fs).length = j := by have := ho2.fns.bound.2; obtain ⟨A9, c9, e9⟩ := this; injection e9 with _ e9 _; exact e9.symm
      have HO := Lib.hid ho2
      have HLF := Lib.hid hlf
      have t3 := cell_of_block ho2.x3 0
      simp at t3
      have CC := Lib.hid (code_any (w := wr) (fs := fewv fs) (A := AV) (c := cV) (HLL.out.keep ho2.bel) (by rw [hlf]; exact ho2.fns) (fewv_bound fs).1 (fewv_bound fs).2)
      rw [hlf] at CC
      clear hlt hen hown ho2 hlf HI
      rcases hcs with hcs | ⟨hcs, hcs2⟩
      all_goals (go_upto_region 9 with fail)
      all_goals clear y1 hcs
      all_goals
        go_wp2_with fail
        refine CC.out.mono ?_; rintro e w4 ⟨rfl, hb4⟩
        have HO4 := Lib.hid (HO.out.keep hb4)
        clear hb4 CC t3 HO
        by_cases hok : CodeOk (fewv fs)
        case neg =>
          have hcv := codev_no hok
          obtain ⟨cv, hcv2⟩ : ∃ z, z = codev (fewv fs) := ⟨_, rfl⟩
          rw [← hcv2] at hcv ⊢
          subst hcv
          clear hcv2
          go_wp2_with fail
          go_ret
          exact ⟨rfl, HO4.out.bel⟩
        case pos =>
          have hcv := codev_ok hok
          obtain ⟨cv, hcv2⟩ : ∃ z, z = codev (fewv fs) := ⟨_, rfl⟩
          rw [← hcv2] at hcv ⊢
          subst hcv
          clear hcv2
          have HOK := Lib.hid hok
          have HBE := Lib.hid (better_all (fewv fs))
          obtain ⟨hk1, hk2⟩ := fewv_full HFU.out
          have CA := Lib.hid (all_any (w := w4) (A := AV) (n := j) (c := cV) (fs := fewv fs) HO4.out.fns HLF.out.symm hk1 hk2)
          have t3 := cell_of_block HO4.out.x3 0
          simp at t3
          clear hok hk1 hk2
          go_wp2_with fail
          refine CA.out.mono ?_; rintro e w5 ⟨Vd, rfl, hfd, hb5⟩
          obtain ⟨_, Ad, cd, rfl⟩ := hfd.bound
          obtain ⟨jd, hjd⟩ : ∃ z, z = ((fewv fs).map foldF).length := ⟨_, rfl⟩
          rw [← hjd] at hfd ⊢
          obtain ⟨w6, hw6⟩ : ∃ z, z = w5.alloc (.cells #[.slice Ad jd cd] 24) := ⟨_, rfl⟩
          obtain ⟨Q4, hQ4⟩ : ∃ z, z = w5.heap.size := ⟨_, rfl⟩
          have b6 : Below w5.heap.size w5 w6 := by rw [hw6]; exact (Below.refl _ _).alloc (Nat.le_refl _) _
          have x4 : w6.heap[Q4]? = some (.cells #[.slice Ad jd cd] 24 (0, 0)) := by rw [hw6]; exact heap_new' hQ4.symm
          have HO6 := Lib.hid ((HO4.out.keep hb5).keep b6)
          have HFD := Lib.hid (hfd.keep b6)
          have HX4 := Lib.hid x4
          have HW6 := Lib.hid (And.intro hw6 hQ4)
          have HJD := Lib.hid hjd
          have hdm : ((fewv fs).map foldF).length ≤ 1048576 ∧ ∀ f ∈ (fewv fs).map foldF, f.l.length ≤ 1048576 := by
            refine ⟨by rw [List.length_map]; exact (fewv_bound fs).1, fun f hf => ?_⟩
            obtain ⟨g, hg, rfl⟩ := List.mem_map.1 hf
            exact Nat.le_trans (foldv_le _ _ rfl) ((fewv_bound fs).2 g hg)
          have HDM := Lib.hid hdm
          have CD := Lib.hid (code_any (w := w6) (fs := (fewv fs).map foldF) (A := Ad) (c := cd) (HLL.out.keep HO6.out.bel) (by rw [← hjd]; exact HFD.out) hdm.1 hdm.2)
          rw [← hjd, codev_ok (HBE.out.ok HOK.out)] at CD
          have u4 := cell_of_block x4 0
          simp at u4
          clear hfd hb5 hw6 hQ4 b6 x4 hjd hdm CA t3 HO4
          go_upto_region 12 with fail
          rw [← HW6.out.1, ← HW6.out.2]
          go_wp2_with fail
          refine CD.out.mono ?_; rintro e w7 ⟨rfl, hb7⟩
          have HO7 := Lib.hid (HO6.out.keep hb7)
          have HFD7 := Lib.hid (HFD.out.keep hb7)
          have HX47 := Lib.hid ((Below.chg hb7).heap HX4.out (fun x => x))
          clear hb7 CD u4 HO6 HFD HX4 HW6
          have hF1 := HFE.out.1
          have hF := HFE.out.2
          have hG1 : max fuel0 0 = F1 := by split at hF1 <;> omega
          have hG : min F1 3000 = F := by split at hF <;> omega
          go_upto_region 15 with fail
          clear hF1 hF hG1 hG
          have t3 := cell_of_block HO7.out.x3 0
          have t20 := cell_of_block HO7.out.x2 0
          have t21 := cell_of_block HO7.out.x2 1
          simp at t3 t20 t21
          have CR := Lib.hid (run_any (w := w7) (A := AV) (c := cV) (fs := fewv fs) (fuel := F) (quota := quota) (HLL.out.keep HO7.out.bel) (by rw [HLF.out]; exact HO7.out.fns) (fewv_bound fs).1 (fewv_bound fs).2 (HIN.out.1.keep HO7.out.bel) (HIN.out.2.keep HO7.out.bel) (by have := HFB.out; omega))
          rw [HLF.out] at CR
          go_wp2_with fail
          refine CR.out.mono ?_; rintro e w8 ⟨va, a, rfl, hoa, hra, hb8, _⟩
          obtain ⟨AP, cP, AK, cK, AC, cC, rfl, np, nk, nc⟩ := outIs_shape hoa
          obtain ⟨lp, hlp⟩ : ∃ l, l = a.pr.length := ⟨_, rfl⟩
          obtain ⟨lk, hlk⟩ : ∃ l, l = a.ke.length := ⟨_, rfl⟩
          obtain ⟨lc, hlc⟩ : ∃ l, l = a.cl.length := ⟨_, rfl⟩
          obtain ⟨aclk, haclk⟩ : ∃ l, l = a.clk := ⟨_, rfl⟩
          obtain ⟨ares, hares⟩ : ∃ l, l = a.res := ⟨_, rfl⟩
          obtain ⟨aerr, haerr⟩ : ∃ l, l = a.err := ⟨_, rfl⟩
          rw [← hlp] at np
          rw [← hlk] at nk
          rw [← hlc] at nc
          rw [← hlp, ← hlk, ← hlc, ← haclk, ← hares, ← haerr]
          have HA := Lib.hid (And.intro haclk (And.intro hares (And.intro haerr hra)))
          obtain ⟨w9, hw9⟩ : ∃ z, z = w8.alloc (.cells #[.slice AP lp cP, .slice AK lk cK, .slice AC lc cC, .int .i64 aclk, .int .i64 ares, .int .i64 aerr] 36) := ⟨_, rfl⟩
          obtain ⟨BA, hBA⟩ : ∃ z, z = w8.heap.size := ⟨_, rfl⟩
          have bA : Below w8.heap.size w8 w9 := by rw [hw9]; exact (Below.refl _ _).alloc (Nat.le_refl _) _
          have xA : w9.heap[BA]? = some (.cells #[.slice AP lp cP, .slice AK lk cK, .slice AC lc cC, .int .i64 aclk, .int .i64 ares, .int .i64 aerr] 36 (0, 0)) := by rw [hw9]; exact heap_new' hBA.symm
          have b79 := bel_trans hb8 bA
          have HO9 := Lib.hid (HO7.out.keep b79)
          have HFD9 := Lib.hid (HFD7.out.keep b79)
          have HX49 := Lib.hid ((Below.chg b79).heap HX47.out (fun x => x))
          have HXA := Lib.hid xA
          have HNA := Lib.hid (And.intro (np.keep bA) (nk.keep bA))
          have HW9 := Lib.hid (And.intro hw9 hBA)
          clear hoa hra hb8 np nk nc hlp hlk hlc haclk hares haerr hw9 hBA bA xA b79 CR t3 t20 t21 HO7 HFD7 HX47
          go_upto_region 16 with fail
          rw [← HW9.out.1, ← HW9.out.2]
          have u4 := cell_of_block HX49.out 0
          have t20 := cell_of_block HO9.out.x2 0
          have t21 := cell_of_block HO9.out.x2 1
          simp at u4 t20 t21
          have CR := Lib.hid (run_any (w := w9) (A := Ad) (c := cd) (fs := (fewv fs).map foldF) (fuel := F) (quota := quota) (HLL.out.keep HO9.out.bel) (by rw [← HJD.out]; exact HFD9.out) HDM.out.1 HDM.out.2 (HIN.out.1.keep HO9.out.bel) (HIN.out.2.keep HO9.out.bel) (by have := HFB.out; omega))
          rw [← HJD.out] at CR
          go_wp2_with fail
          refine CR.out.mono ?_; rintro e y1 ⟨vb, b, rfl, hob, hrb, hb8, _⟩
          obtain ⟨BP, eP, BK, eK, BC, eC, rfl, mp, mk, mc⟩ := outIs_shape hob
          obtain ⟨l2p, hlp⟩ : ∃ l, l = b.pr.length := ⟨_, rfl⟩
          obtain ⟨l2k, hlk⟩ : ∃ l, l = b.ke.length := ⟨_, rfl⟩
          obtain ⟨l2c, hlc⟩ : ∃ l, l = b.cl.length := ⟨_, rfl⟩
          obtain ⟨bclk, hbclk⟩ : ∃ l, l = b.clk := ⟨_, rfl⟩
          obtain ⟨bres, hbres⟩ : ∃ l, l = b.res := ⟨_, rfl⟩
          obtain ⟨berr, hberr⟩ : ∃ l, l = b.err := ⟨_, rfl⟩
          rw [← hlp] at mp
          rw [← hlk] at mk
          rw [← hlc] at mc
          rw [← hlp, ← hlk, ← hlc, ← hbclk, ← hbres, ← hberr]
          have HBB := Lib.hid (And.intro hbclk (And.intro hbres (And.intro hberr hrb)))
          obtain ⟨y2, hy2⟩ : ∃ z, z = y1.alloc (.cells #[.slice BP l2p eP, .slice BK l2k eK, .slice BC l2c eC, .int .i64 bclk, .int .i64 bres, .int .i64 berr] 36) := ⟨_, rfl⟩
          obtain ⟨BB, hBB⟩ : ∃ z, z = y1.heap.size := ⟨_, rfl⟩
          have bB : Below y1.heap.size y1 y2 := by rw [hy2]; exact (Below.refl _ _).alloc (Nat.le_refl _) _
          have xB : y2.heap[BB]? = some (.cells #[.slice BP l2p eP, .slice BK l2k eK, .slice BC l2c eC, .int .i64 bclk, .int .i64 bres, .int .i64 berr] 36 (0, 0)) := by rw [hy2]; exact heap_new' hBB.symm
          have b92 := bel_trans hb8 bB
          have HOy := Lib.hid (HO9.out.keep b92)
          have HXAy := Lib.hid ((Below.chg b92).heap HXA.out (fun x => x))
          have HXB := Lib.hid xB
          have HNy := Lib.hid (And.intro (HNA.out.1.keep b92) (And.intro (HNA.out.2.keep b92) (And.intro (mp.keep bB) (mk.keep bB))))
          have HWy := Lib.hid (And.intro hy2 hBB)
          clear hob hrb hb8 mp mk mc hlp hlk hlc hbclk hbres hberr hy2 hBB bB xB b92 CR u4 t20 t21 HO9 HFD9 HX49 HXA HNA HW9
          go_upto_region 17 with fail
          rw [← HWy.out.1, ← HWy.out.2]
          have t3 := cell_of_block HOy.out.x3 0
          simp at t3
          have CK := Lib.hid (clocks_any (w := y2) (A := AV) (n := j) (c := cV) (fs := fewv fs) HOy.out.fns HLF.out.symm)
          obtain ⟨ck, hck⟩ : ∃ z, z = clocksV (fewv fs) := ⟨_, rfl⟩
          rw [← hck] at CK
          have HCK := Lib.hid hck
          clear hck
          go_wp2_with fail
          refine CK.out.mono ?_; rintro e y3 ⟨rfl, hb3⟩
          have HB3 := Lib.hid (HOy.out.keep hb3).bel
          have pa := (Below.chg hb3).heap HXAy.out (fun x => x)
          have pb := (Below.chg hb3).heap HXB.out (fun x => x)
          have p0 := cell_of_block pa 0
          have p1 := cell_of_block pa 1
          have p3 := cell_of_block pa 3
          have p4 := cell_of_block pa 4
          have p5 := cell_of_block pa 5
          have q0 := cell_of_block pb 0
          have q1 := cell_of_block pb 1
          have q3 := cell_of_block pb 3
          have q4 := cell_of_block pb 4
          have q5 := cell_of_block pb 5
          simp at p0 p1 p3 p4 p5 q0 q1 q3 q4 q5
          have HN3 := Lib.hid (And.intro (HNy.out.1.keep hb3) (And.intro (HNy.out.2.1.keep hb3) (And.intro (HNy.out.2.2.1.keep hb3) (HNy.out.2.2.2.keep hb3))))
          clear hb3 pa pb CK t3 HOy HXAy HXB HNy HWy
          by_cases h8 : aerr = 8
          · have e8 : (aerr == 8) = true := by rw [h8]; rfl
            clear p0 p1 p3 p4 q0 q1 q3 q4 q5
            go_wp2_with fail
            go_ret
            exact ⟨rfl, HB3.out⟩
          · have e8 : (aerr == 8) = false := by rw [beq_eq_false_iff_ne]; exact h8
            cases ck with
            | true =>
              clear p0 p1 p3 p4 q0 q1 q3 q4 q5
              go_wp2_with fail
              go_ret
              exact ⟨rfl, HB3.out⟩
            | false =>
              obtain ⟨g1, g2, g3, g4, g5⟩ := better_out HBE.out HOK.out HA.out.2.2.2 HBB.out.2.2.2 (noClock_of HCK.out.symm) (fun h => h8 (HA.out.2.2.1.trans h))
              rw [← HBB.out.2.1, ← HA.out.2.1] at g3
              rw [← HBB.out.2.2.1, ← HA.out.2.2.1] at g4
              rw [← HBB.out.1, ← HA.out.1] at g5
              subst g3 g4
              have CR1 := Lib.hid (rows16_any HN3.out.1 HN3.out.2.2.1)
              have CR2 : Hid (∀ k, Calls Tryz.prog 10 #[.slice AK lk cK, .slice BK l2k eK] (y3.drewN k) fun e w' => e = .returned (.bool (decide (a.ke = b.ke))) ∧ ∃ m, w' = (y3.drewN k).drewN m) := Lib.hid (fun k => rows16_any (HN3.out.2.1.drewN k) (HN3.out.2.2.2.drewN k))
              rw [decide_eq_true g1.symm] at CR1
              rw [decide_eq_true g2.symm] at CR2
              have t5 : decide (bclk ≤ aclk) = true := decide_eq_true g5
              clear g1 g2
              go_wp2_with fail
              refine CR1.out.mono ?_; rintro e y4 ⟨rfl, k1, rfl⟩
              go_wp2_with fail
              refine (CR2.out _).mono ?_; rintro e y4 ⟨rfl, k2, rfl⟩
              go_wp2_with fail
              go_ret
              exact ⟨rfl, by first | exact belowN (belowN HB3.out _) _ | exact belowN HB3.out _⟩
end Go.Proofs.YtahmnmpfjgddpaaGreatDoor
