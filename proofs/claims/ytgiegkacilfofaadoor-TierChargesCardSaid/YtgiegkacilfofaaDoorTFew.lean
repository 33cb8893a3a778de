/- law19: few. (Written by gen_tfew.py from law14's.) -/
import Derived.Test.YtgiegkacilfofaaDoorTFns
import Derived.Test.YtgiegkacilfofaaDoorProf
import Derived.Deep.AppendLies
import Derived.Handy
namespace Go.Proofs.YtgiegkacilfofaaDoor
set_option linter.unusedVariables false
set_option linter.unusedSimpArgs false
open Go.RowKit

def tfewf (f : FnR) : FnR := { f with ps := clampP f.ps, l := f.l.take 60 }
def tfewv (fs : List FnR) : List FnR := (fs.take 5).map tfewf
theorem tfewv_snoc {fs : List FnR} {j : Nat} (hj : j < fs.length) (h6 : j < 5) : tfewv (fs.take (j + 1)) = tfewv (fs.take j) ++ [tfewf fs[j]] := by
  unfold tfewv
  rw [List.take_take, List.take_take, Nat.min_eq_right (by omega), Nat.min_eq_right (by omega), List.take_succ_eq_append_getElem hj, List.map_append]
  rfl
theorem tfewv_len {fs : List FnR} {j : Nat} (hj : j ≤ fs.length) (h6 : j ≤ 5) : (tfewv (fs.take j)).length = j := by
  unfold tfewv
  rw [List.length_map, List.length_take, List.length_take]
  omega

structure TFewIs (w wr : World) (Q1 Q2 Q3 : Nat) (V Vo : Value) (fs : List FnR) (j : Nat) : Prop where
  x1 : wr.heap[Q1]? = some (.cells #[V] 24 (0, 0))
  x2 : wr.heap[Q2]? = some (.cells #[.slice none 0 0] 24 (0, 0))
  x3 : wr.heap[Q3]? = some (.cells #[Vo] 24 (0, 0))
  row : ∃ xs, wr.ownsRow 0 46 5 Vo j xs ∧ FnCells w (tfewv (fs.take j)) xs
  far : ∀ k, Vo.ownBlock = some k → Q3 < k
  bel : Below w.heap.size w wr
set_option maxHeartbeats 8000000 in
set_option maxRecDepth 100000 in
theorem tfew_any {w : World} {A : Option Addr} {n c : Nat} {fs : List FnR} (hfs : FnsIs w (.slice A n c) fs) (hn : n = fs.length) :
    Calls Tryd.prog 7 #[.agg #[.slice A n c]] w fun e w' => ∃ V, e = .returned (.agg #[V]) ∧ FnsIs w' V (tfewv fs) ∧ Below w.heap.size w w' := by
  have hnm : n ≤ 9223372036854775807 := by have := hfs.bound.1; unfold maxLen at this; omega
  obtain ⟨wa, hwa⟩ : ∃ z, z = w.alloc (.cells #[.slice A n c] 24) := ⟨_, rfl⟩
  obtain ⟨wb, hwb⟩ : ∃ z, z = wa.alloc (.cells #[.slice none 0 0] 24) := ⟨_, rfl⟩
  obtain ⟨w0, hw0⟩ : ∃ z, z = wb.alloc (.cells #[.slice none 0 0] 24) := ⟨_, rfl⟩
  obtain ⟨Q1, hQ1⟩ : ∃ z, z = w.heap.size := ⟨_, rfl⟩
  obtain ⟨Q2, hQ2⟩ : ∃ z, z = wa.heap.size := ⟨_, rfl⟩
  obtain ⟨Q3, hQ3⟩ : ∃ z, z = wb.heap.size := ⟨_, rfl⟩
  have e2 : Q2 = w.heap.size + 1 := by rw [hQ2, hwa]; show (w.heap.push _).size = _; exact Array.size_push _
  have e3 : Q3 = w.heap.size + 1 + 1 := by rw [hQ3, hwb]; show (wa.heap.push _).size = _; rw [Array.size_push, ← hQ2, e2]
  have ca : Chg (fun _ => False) w wa := by rw [hwa]; exact (Chg.refl _ _).alloc _
  have cb : Chg (fun _ => False) wa wb := by rw [hwb]; exact (Chg.refl _ _).alloc _
  have c0 : Chg (fun _ => False) wb w0 := by rw [hw0]; exact (Chg.refl _ _).alloc _
  have x1 : w0.heap[Q1]? = some (.cells #[.slice A n c] 24 (0, 0)) := (cb.then c0).heap (by rw [hwa]; exact heap_new' hQ1.symm) (fun x => x)
  have x2 : w0.heap[Q2]? = some (.cells #[.slice none 0 0] 24 (0, 0)) := c0.heap (by rw [hwb]; exact heap_new' hQ2.symm) (fun x => x)
  have x3 : w0.heap[Q3]? = some (.cells #[.slice none 0 0] 24 (0, 0)) := by rw [hw0]; exact heap_new' hQ3.symm
  have b0 : Below w.heap.size w w0 := ((ca.then cb).then c0).below (fun k h => h.elim) (Nat.le_refl _)
  have y1 := cell_of_block x1 0
  simp at y1
  have HB0 := Lib.hid b0
  have HX := Lib.hid (And.intro x1 (And.intro x2 x3))
  have HQ := Lib.hid (And.intro hQ1 (And.intro e2 e3))
  have HWE := Lib.hid (And.intro hwa (And.intro hwb (And.intro hw0 (And.intro e3 (And.intro e2 hQ1)))))
  have HFS := Lib.hid hfs
  have HN := Lib.hid hn
  clear hwa hwb hw0 hQ1 hQ2 hQ3 e2 e3 ca cb c0 x1 x2 x3 b0 hfs hn
  go_enter Tryd.func7, Tryd.ntmps7
  go_upto_region 2 with fail
  rw [← HWE.out.1, ← HWE.out.2.1, ← HWE.out.2.2.1, ← HWE.out.2.2.2.1, ← HWE.out.2.2.2.2.1, ← HWE.out.2.2.2.2.2]
  have HST : Hid (TFewIs w w0 Q1 Q2 Q3 (.slice A n c) (.slice none 0 0) fs 0) := Lib.hid ⟨HX.out.1, HX.out.2.1, HX.out.2.2, ⟨[], World.ownsRow_nil _ _ _ _, fun j f hf => by simp [tfewv] at hf⟩, (fun k h => by cases h), HB0.out⟩
  clear y1
  go_wp2_with fail
  go_loopg [4] 5 (fun k i wr => ∃ (j : Nat) (Vo : Value), j ≤ n ∧ j ≤ 5 ∧ k = 5 - j ∧ i = .int .i64 j ∧ Hid (TFewIs w wr Q1 Q2 Q3 (.slice A n c) Vo fs j))
  case atStart => exact ⟨0, _, by omega, by omega, rfl, rfl, HST⟩
  case round =>
    obtain ⟨j, Vo, hjn, hj6, hk, rfl, HI⟩ := hrel
    have HK := Lib.hid hk
    clear hk
    have y1 := cell_of_block HI.out.x1 0
    simp at y1
    by_cases hjl : j < n
    · by_cases hj : j < 5
      · have hjf : j < fs.length := by rw [← HN.out]; exact hjl
        obtain ⟨b, off, cap, B, cB, e, hb, hcap, ⟨q0, q1, q2, q3, q4⟩, hsrc⟩ := HFS.out.get j hjf
        injection e with e1 e3 e2
        subst e1 e2
        clear e3
        have hkc := Below.chg HI.out.bel
        have q0 := hkc.cell q0 (fun x => x)
        have q1 := hkc.cell q1 (fun x => x)
        have q2 := hkc.cell q2 (fun x => x)
        have q3 := hkc.cell q3 (fun x => x)
        have q4 := hkc.cell q4 (fun x => x)
        obtain ⟨f, hf⟩ : ∃ f, f = fs[j] := ⟨_, rfl⟩
        rw [← hf] at q0 q1 q2 q3 q4 hsrc
        obtain ⟨nm, ps, vs, ar, l⟩ := f
        simp only at q0 q1 q2 q3 q4 hsrc
        obtain ⟨ln, hln⟩ : ∃ ln, ln = l.length := ⟨_, rfl⟩
        obtain ⟨m2, hm2⟩ : ∃ m2 : Nat, (if (60 : Int) < (ln : Int) then (60 : Int) else (ln : Int)) = (m2 : Int) := ⟨(if (60 : Int) < (ln : Int) then (60 : Int) else (ln : Int)).toNat, by split <;> omega⟩
        have hm2l : m2 ≤ ln ∧ m2 ≤ 60 ∧ (m2 = 60 ∨ m2 = ln) := by split at hm2 <;> omega
        have hcp := hsrc.cap
        have hst := hsrc.takeI m2 (by rw [← hln]; exact hm2l.1)
        rw [← hln] at q4 hcp
        rw [← HN.out] at hcap
        obtain ⟨w1, hw1⟩ : ∃ z, z = wr.alloc (.cells #[.string nm, .int .i64 ps, .int .i64 vs, .int .i64 ar, .slice B ln cB] 46) := ⟨_, rfl⟩
        obtain ⟨P, hP⟩ : ∃ z, z = wr.heap.size := ⟨_, rfl⟩
        have d1 : Chg (fun _ => False) wr w1 := by rw [hw1]; exact (Chg.refl _ _).alloc _
        have p1 : w1.heap[P]? = some (.cells #[.string nm, .int .i64 ps, .int .i64 vs, .int .i64 ar, .slice B ln cB] 46 (0, 0)) := by rw [hw1]; exact heap_new' hP.symm
        have t4 := cell_of_block p1 4
        have ff4 := frozen_of_block p1 4
        obtain ⟨wl, hwl⟩ : ∃ z, z = w1.setCell ⟨P, 4, none⟩ (.slice B m2 cB) := ⟨_, rfl⟩
        have d2a : Chg (fun k => k = P) w1 wl := by rw [hwl]; exact Chg.set_cell (w := w1) ⟨P, 4, none⟩ _
        have p2a := heap_set p1 4 (.slice B m2 cB)
        rw [← hwl] at p2a
        have t1 := cell_of_block p2a 1
        have ff1 := frozen_of_block p2a 1
        obtain ⟨cq1, hq1⟩ : ∃ z, (if ps < 0 then 0 else ps) = z := ⟨_, rfl⟩
        obtain ⟨cq, hq2⟩ : ∃ z, (if 8 < cq1 then 8 else cq1) = z := ⟨_, rfl⟩
        have HCQ : Hid (clampP ps = cq) := Lib.hid (by unfold clampP; split at hq1 <;> split at hq2 <;> omega)
        obtain ⟨w2, hw2⟩ : ∃ z, z = wl.setCell ⟨P, 1, none⟩ (.int .i64 cq) := ⟨_, rfl⟩
        have d2 : Chg (fun k => k = P) w1 w2 := d2a.then (by rw [hw2]; exact Chg.set_cell (w := wl) ⟨P, 1, none⟩ _)
        have p2 := heap_set p2a 1 (.int .i64 cq)
        rw [← hw2] at p2
        have s0 := cell_of_block p2 0
        have s1 := cell_of_block p2 1
        have s2 := cell_of_block p2 2
        have s3 := cell_of_block p2 3
        have s4 := cell_of_block p2 4
        have hQP : Q3 < P := by rw [hP]; exact lt_of_heap HI.out.x3
        have z3 := cell_of_block (d2.heap (d1.heap HI.out.x3 (fun x => x)) (fun e => by omega)) 0
        simp at t4 t1 s0 s1 s2 s3 s4 z3
        have hcl : cB ≤ 9223372036854775807 ∨ True := .inr trivial
        have HW := Lib.hid (And.intro hw1 (And.intro hP (And.intro hwl hw2)))
        have HD := Lib.hid (And.intro d1 d2)
        have HF := Lib.hid (And.intro hf hln)
        have HS := Lib.hid (And.intro hsrc hst)
        have HM := Lib.hid hm2l
        have hm2c : m2 ≤ cB := by omega
        have hmm := hm2l.1
        have hln63 : ln ≤ 9223372036854775807 := by have := hcp.1; unfold maxLen at this; omega
        clear hw1 hP hwl hw2 d1 d2 d2a p2a hf hln hsrc hst hm2l hcl p1 p2 hb hcp hkc
        go_upto_region 6 with fail
        rw [← HW.out.1, ← HW.out.2.1]
        clear q0 q1 q2 q3 q4 y1 hcap
        go_upto_region 7 with fail
        rw [← HW.out.2.2.1]
        clear t4 ff4
        go_upto_region 8 with fail
        rw [← HW.out.2.2.2]
        clear t1 ff1 hq1 hq2
        obtain ⟨xs, hown, hcl⟩ := HI.out.row
        have d12 : Chg (fun k => k = P) wr w2 := (HD.out.1.mono (fun _ _ x => x.elim)).then HD.out.2
        have hVP : ∀ k, Vo.ownBlock = some k → k ≠ P := fun k hk e => by
          have h1 := ownsRow_lt hown k hk
          rw [e, HW.out.2.1] at h1
          omega
        have hown2 := ownsRow_kept hown d12 (fun k hk e => hVP k hk e)
        have hPw : w.heap.size ≤ P := by rw [HW.out.2.1]; exact HI.out.bel.size
        have hb2 : Below w.heap.size wr w2 := d12.below (fun k e => by rw [e]; exact hPw) HI.out.bel.size
        obtain ⟨_, AV, cV, rfl⟩ := ownsRow_slice hown
        obtain ⟨wx, hwx⟩ : ∃ z, z = w2.alloc (.cells #[.string nm, .int .i64 cq, .int .i64 vs, .int .i64 ar, .slice B m2 cB] 46) := ⟨_, rfl⟩
        have hcx : Chg (fun _ => False) w2 wx := by rw [hwx]; exact (Chg.refl _ _).alloc _
        have HROW : Hid (wx.ownsRow 0 46 5 (.slice AV j cV) j xs) := Lib.hid (ownsRow_kept hown2 hcx (fun _ _ x => x))
        have HNEW : Hid (∀ (i : Nat) u, ([.string nm, .int .i64 cq, .int .i64 vs, .int .i64 ar, .slice B m2 cB] : List Value)[i]? = some u → wx.cell? ((⟨w2.heap.size, 0, none⟩ : Addr).add i) = some u) := Lib.hid (World.news_of_block (cs := #[.string nm, .int .i64 cq, .int .i64 vs, .int .i64 ar, .slice B m2 cB]) (t := 46) (fr := (0, 0)) (by rw [hwx]; exact heap_new _ _))
        have HSZ : Hid (wx.heap.size = w2.heap.size + 1) := Lib.hid (by rw [hwx]; simp)
        obtain ⟨i0, hi, hz0, hz1, hz2⟩ := info_parts infoFn
        have g1 := HI.out.x1
        have g2 := HI.out.x2
        have g3 := HI.out.x3
        have lt3 := lt_of_heap g3
        have hwP : P = wr.heap.size := HW.out.2.1
        have hQ := HQ.out
        have dx : Chg (fun k => k = P) wr wx := d12.then (hcx.mono (fun _ _ x => x.elim))
        have HG : Hid (wx.heap[Q1]? = some (.cells #[.slice (some ⟨b, off, none⟩) n c] 24 (0, 0)) ∧ wx.heap[Q2]? = some (.cells #[.slice none 0 0] 24 (0, 0)) ∧ wx.heap[Q3]? = some (.cells #[.slice AV j cV] 24 (0, 0))) := Lib.hid ⟨dx.heap g1 (fun e => by omega), dx.heap g2 (fun e => by omega), dx.heap g3 (fun e => by omega)⟩
        have HX2 := Lib.hid (And.intro hb2 (And.intro hcl (And.intro hwP (And.intro lt3 (And.intro hcx hPw)))))
        have HVF := Lib.hid HI.out.far
        have HWX := Lib.hid hwx
        clear hown hcl d12 hVP hown2 hPw hb2 hwx hcx g1 g2 g3 lt3 hwP hQ dx
        go_wp2_with (at_builtin; rw [← HWX.out]; refine wpList_append_lies _ rfl _ _ _ rfl 0 46 i0 _ 5 64 Tryd.underlying22 hi hz0 hz1 hz2 rfl (by omega) (.slice AV j cV) j xs rfl HROW.out ⟨w2.heap.size, 0, none⟩ 1 1 [.string nm, .int .i64 cq, .int .i64 vs, .int .i64 ar, .slice B m2 cB] rfl rfl HNEW.out (by simp [Value.oneCell']) (by omega) (by unfold maxLen; omega) (by omega) (by omega) (w2.heap.size + 1) HSZ.out ?_; intro g5 cap5 w5 hown5 hgrow5 hat5 hlt5; have hc5 := Chg.of_grown hgrow5; have hg5 : ∀ k, k ≤ Q3 → ¬ (Value.slice AV j cV).ownBlock = some k := (fun k hk e => by have := HVF.out k e; omega); have hb5 := hc5.heap HG.out.2.2 (hg5 Q3 (Nat.le_refl _)); have k0 := cell_of_block hb5 0; have kf := frozen_of_block hb5 0; simp at k0; have HC5 := Lib.hid (And.intro hown5 (And.intro hc5 (And.intro hat5 (And.intro hg5 (And.intro hb5 hlt5))))); clear hown5 hgrow5 hat5 hlt5 hc5 hg5 hb5)
        have hset := Chg.set_cell (w := w5) ⟨Q3, 0, none⟩ (.slice (some ⟨g5, 0, none⟩) (j + 1) cap5)
        have hg3 : Q3 < g5 := by
          have h1 := HX2.out.2.2.2.1
          have h2 := HX2.out.2.2.1
          rcases HC5.out.2.2.1 with e | e
          · exact HVF.out g5 e
          · have := HD.out.1.size
            have := HD.out.2.size
            omega
        have HN2 : Hid (TFewIs w (w5.setCell ⟨Q3, 0, none⟩ (.slice (some ⟨g5, 0, none⟩) (j + 1) cap5)) Q1 Q2 Q3 (.slice (some ⟨b, off, none⟩) n c) (.slice (some ⟨g5, 0, none⟩) (j + 1) cap5) fs (j + 1)) := Lib.hid (by
          have hQ := HQ.out
          refine ⟨hset.heap (HC5.out.2.1.heap HG.out.1 (HC5.out.2.2.2.1 Q1 (by omega))) (fun e => by have e : Q1 = Q3 := e; omega), hset.heap (HC5.out.2.1.heap HG.out.2.1 (HC5.out.2.2.2.1 Q2 (by omega))) (fun e => by have e : Q2 = Q3 := e; omega), heap_set HC5.out.2.2.2.2.1 0 _, ⟨_, ownsRow_kept HC5.out.1 hset (fun k hk e => by
            have hk : some g5 = some k := hk
            have e : k = Q3 := e
            injection hk with hk
            omega), ?_⟩, fun k hk => by
            have hk : some g5 = some k := hk
            injection hk with hk
            omega, ?_⟩
          · have hjf : j < fs.length := by rw [← HN.out]; exact hjl
            rw [tfewv_snoc hjf hj, ← HF.out.1, show tfewf ⟨nm, ps, vs, ar, l⟩ = ⟨nm, cq, vs, ar, l.take 60⟩ from by unfold tfewf; simp only; rw [HCQ.out]]
            have hlen : (l.take 60).length = m2 := by
              rw [List.length_take, ← HF.out.2]
              have := HM.out
              omega
            have htk : l.take 60 = l.take m2 := by
              rcases HM.out.2.2 with e | e
              · rw [e]
              · rw [e, HF.out.2, List.take_length, List.take_of_length_le (by rw [← HF.out.2]; have := HM.out; omega)]
            have hs := HS.out.2
            rw [← htk] at hs
            have h := FnCells.snoc (f := ⟨nm, cq, vs, ar, l.take 60⟩) (A := B) (c := cB) HX2.out.2.1 (by rw [tfewv_len (by omega) (by omega)]; exact HROW.out.1) (by simp only; rw [hlen]; exact hs)
            simp only at h
            rw [hlen] at h
            exact h
          · have h1 : Below w.heap.size wr w2 := HX2.out.1
            have h2 : Below w.heap.size w2 wx := HX2.out.2.2.2.2.1.below (fun k h => h.elim) (Nat.le_trans HI.out.bel.size h1.size)
            have h3 : Below w.heap.size wx w5 := HC5.out.2.1.below (fun k h => by have := HVF.out k h; omega) (Nat.le_trans (Nat.le_trans HI.out.bel.size h1.size) h2.size)
            have h4 : Below w.heap.size w5 (w5.setCell ⟨Q3, 0, none⟩ (.slice (some ⟨g5, 0, none⟩) (j + 1) cap5)) := hset.below (fun k h => by have h : k = Q3 := h; omega) (Nat.le_trans (Nat.le_trans (Nat.le_trans HI.out.bel.size h1.size) h2.size) h3.size)
            exact (((HI.out.bel.trans h1).trans h2).trans h3).trans h4)
        go_roundg (5 - (j + 1))
        case measure => have := HK.out; omega
        case rel => exact ⟨j + 1, _, by omega, by omega, rfl, by go_num, HN2⟩
      · obtain rfl : j = 5 := by omega
        have x2 := HI.out.x2
        have x3 := HI.out.x3
        have w3 := cell_of_block x3 0
        have w2 := cell_of_block x2 0
        have f2 := frozen_of_block x2 0
        simp at w2 w3
        obtain ⟨xs, hown, hcl⟩ := HI.out.row
        obtain ⟨_, AV, cV, rfl⟩ := ownsRow_slice hown
        have HXS := Lib.hid (And.intro hown hcl)
        clear x2 x3 hown hcl
        go_wp2_with fail
        obtain ⟨wf, hwf⟩ : ∃ z, z = wr.setCell ⟨Q2, 0, none⟩ (.slice AV 5 cV) := ⟨_, rfl⟩
        have hset : Chg (fun k => k = Q2) wr wf := by rw [hwf]; exact Chg.set_cell (w := wr) ⟨Q2, 0, none⟩ _
        have v0 := cell_of_block (heap_set HI.out.x2 0 (.slice AV 5 cV)) 0
        rw [← hwf] at v0 ⊢
        simp at v0
        refine bodyPost_ret (by simp [results, Tryd.results7, go_sem, v0]; try rfl) rfl ?_
        have hQ := HQ.out
        have hbf : Below w.heap.size w wf := HI.out.bel.trans (hset.below (fun k h => by have h : k = Q2 := h; omega) HI.out.bel.size)
        have et : tfewv (fs.take 5) = tfewv fs := by unfold tfewv; rw [List.take_take, Nat.min_self]
        have hln := tfewv_len (fs := fs) (j := 5) (by have := HN.out; omega) (by omega)
        have hrow := ownsRow_kept HXS.out.1 hset (fun k hk e => by have := HI.out.far k hk; have e : k = Q2 := e; omega)
        rw [et] at hln
        refine ⟨_, rfl, FnsIs.of_row (by rw [hln]; exact hrow) (FnCells.keep (by have h := HXS.out.2; rw [et] at h; exact h) hbf), hbf⟩
    · obtain rfl : j = n := by omega
      have x2 := HI.out.x2
      have x3 := HI.out.x3
      have w3 := cell_of_block x3 0
      have w2 := cell_of_block x2 0
      have f2 := frozen_of_block x2 0
      simp at w2 w3
      obtain ⟨xs, hown, hcl⟩ := HI.out.row
      obtain ⟨_, AV, cV, rfl⟩ := ownsRow_slice hown
      have HXS := Lib.hid (And.intro hown hcl)
      clear x2 x3 hown hcl
      go_wp2_with fail
      obtain ⟨wf, hwf⟩ : ∃ z, z = wr.setCell ⟨Q2, 0, none⟩ (.slice AV j cV) := ⟨_, rfl⟩
      have hset : Chg (fun k => k = Q2) wr wf := by rw [hwf]; exact Chg.set_cell (w := wr) ⟨Q2, 0, none⟩ _
      have v0 := cell_of_block (heap_set HI.out.x2 0 (.slice AV j cV)) 0
      rw [← hwf] at v0 ⊢
      simp at v0
      refine bodyPost_ret (by simp [results, Tryd.results7, go_sem, v0]; try rfl) rfl ?_
      have hQ := HQ.out
      have hbf : Below w.heap.size w wf := HI.out.bel.trans (hset.below (fun k h => by have h : k = Q2 := h; omega) HI.out.bel.size)
      have et : tfewv (fs.take j) = tfewv fs := by rw [List.take_of_length_le (by rw [← HN.out]; exact Nat.le_refl _)]
      have hln := tfewv_len (fs := fs) (j := j) (by have := HN.out; omega) (by omega)
      have hrow := ownsRow_kept HXS.out.1 hset (fun k hk e => by have := HI.out.far k hk; have e : k = Q2 := e; omega)
      rw [et] at hln
      refine ⟨_, rfl, FnsIs.of_row (by rw [hln]; exact hrow) (FnCells.keep (by have h := HXS.out.2; rw [et] at h; exact h) hbf), hbf⟩
end Go.Proofs.YtgiegkacilfofaaDoor
