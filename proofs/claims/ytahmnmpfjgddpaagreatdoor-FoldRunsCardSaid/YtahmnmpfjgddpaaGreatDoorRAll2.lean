/- law16: all. -/
import Derived.Test.YtahmnmpfjgddpaaGreatDoorRAll
import Derived.Deep.CutBlock
namespace Go.Proofs.YtahmnmpfjgddpaaGreatDoor
set_option linter.unusedVariables false
set_option linter.unusedSimpArgs false
open Go.RowKit

theorem foldF_snoc {fs : List FnR} {j : Nat} (hj : j < fs.length) : (fs.take (j + 1)).map foldF = (fs.take j).map foldF ++ [foldF fs[j]] := by
  rw [List.take_succ_eq_append_getElem hj, List.map_append]
  rfl
theorem foldF_len {fs : List FnR} {j : Nat} (hj : j ≤ fs.length) : ((fs.take j).map foldF).length = j := by
  rw [List.length_map, List.length_take]
  omega
/-- the cells of a row of functions whose instructions lie in blocks of their own -/
def FnX (w : World) (Q : Nat) (Vo : Value) (fs : List FnR) (xs : List Value) : Prop :=
  ∀ (j : Nat) f, fs[j]? = some f → ∃ A c, (xs[j * 5]? = some (.string f.nm) ∧ xs[j * 5 + 1]? = some (.int .i64 f.ps) ∧ xs[j * 5 + 2]? = some (.int .i64 f.vs) ∧ xs[j * 5 + 3]? = some (.int .i64 f.ar) ∧ xs[j * 5 + 4]? = some (.slice A f.l.length c)) ∧ Src w (.slice A f.l.length c) f.l.length (insCells f.l) ∧
    ∀ k, (Value.slice A f.l.length c).ownBlock = some k → Q < k ∧ k < w.heap.size ∧ Vo.ownBlock ≠ some k
theorem FnX.cells {w : World} {Q : Nat} {Vo : Value} {fs : List FnR} {xs : List Value} (h : FnX w Q Vo fs xs) : FnCells w fs xs := fun j f hf => by
  obtain ⟨A, c, h1, h2, _⟩ := h j f hf
  exact ⟨A, c, h1, h2⟩
theorem FnX.kept {w w' : World} {Q : Nat} {Vo Vo' : Value} {fs : List FnR} {xs : List Value} {T : Nat → Prop} (h : FnX w Q Vo fs xs) (hc : Chg T w w') (hT : ∀ k, T k → k ≤ Q ∨ w.heap.size ≤ k ∨ Vo.ownBlock = some k) (hV : ∀ k, Vo'.ownBlock = some k → Vo.ownBlock = some k ∨ w.heap.size ≤ k) : FnX w' Q Vo' fs xs := fun j f hf => by
  obtain ⟨A, c, h1, h2, h3⟩ := h j f hf
  refine ⟨A, c, h1, h2.kept hc (.inr fun k hk ht => ?_), fun k hk => ⟨(h3 k hk).1, Nat.lt_of_lt_of_le (h3 k hk).2.1 hc.size, fun e => ?_⟩⟩
  · obtain ⟨a, b, d⟩ := h3 k hk
    rcases hT k ht with e | e | e
    · omega
    · omega
    · exact d e
  · obtain ⟨a, b, d⟩ := h3 k hk
    rcases hV k e with e | e
    · exact d e
    · omega
theorem FnX.snoc {w : World} {Q : Nat} {Vo : Value} {fs : List FnR} {xs : List Value} {f : FnR} {A : Option Addr} {c : Nat} (h : FnX w Q Vo fs xs) (hl : xs.length = fs.length * 5) (hs : Src w (.slice A f.l.length c) f.l.length (insCells f.l)) (hk : ∀ k, (Value.slice A f.l.length c).ownBlock = some k → Q < k ∧ k < w.heap.size ∧ Vo.ownBlock ≠ some k) :
    FnX w Q Vo (fs ++ [f]) (xs ++ [.string f.nm, .int .i64 f.ps, .int .i64 f.vs, .int .i64 f.ar, .slice A f.l.length c]) := fun j g hg => by
  by_cases hj : j < fs.length
  · rw [List.getElem?_append_left hj] at hg
    obtain ⟨B, d, ⟨h0, h1, h2, h3, h4⟩, h5⟩ := h j g hg
    refine ⟨B, d, ⟨?_, ?_, ?_, ?_, ?_⟩, h5⟩ <;> (rw [List.getElem?_append_left (by omega)]; assumption)
  · rw [List.getElem?_append_right (by omega)] at hg
    obtain ⟨rfl, rfl⟩ : j = fs.length ∧ g = f := by
      have h1 : j - fs.length = 0 := by
        have := (List.getElem?_eq_some_iff.1 hg).1
        simp at this
        omega
      rw [h1] at hg
      injection hg with hg
      exact ⟨by omega, hg.symm⟩
    refine ⟨A, c, ⟨?_, ?_, ?_, ?_, ?_⟩, hs, hk⟩ <;> (rw [List.getElem?_append_right (by omega), hl]; simp [Nat.add_sub_cancel_left])

structure AllIs (w wr : World) (Q1 Q2 Q3 : Nat) (V Vo : Value) (fs : List FnR) (j : Nat) : Prop where
  x1 : wr.heap[Q1]? = some (.cells #[V] 24 (0, 0))
  x2 : wr.heap[Q2]? = some (.cells #[.slice none 0 0] 24 (0, 0))
  x3 : wr.heap[Q3]? = some (.cells #[Vo] 24 (0, 0))
  row : ∃ xs, wr.ownsRow 0 31 5 Vo j xs ∧ FnX wr Q3 Vo ((fs.take j).map foldF) xs
  far : ∀ k, Vo.ownBlock = some k → Q3 < k
  bel : Below w.heap.size w wr
set_option maxHeartbeats 8000000 in
set_option maxRecDepth 100000 in
theorem all_any {w : World} {A : Option Addr} {n c : Nat} {fs : List FnR} (hfs : FnsIs w (.slice A n c) fs) (hn : n = fs.length) (hkn : fs.length ≤ 1000) (hsm : ∀ f ∈ fs, f.l.length ≤ 1048576 ∧ ∀ x ∈ f.l, WfI x) :
    Calls Tryz.prog 7 #[.agg #[.slice A n c]] w fun e w' => ∃ V, e = .returned (.agg #[V]) ∧ FnsIs w' V (fs.map foldF) ∧ Below w.heap.size w w' := by
  have hnm : n ≤ 9223372036854775807 := by have := hfs.bound.1; unfold maxLen at this; omega
  obtain ⟨wa, hwa⟩ : ∃ z, z = w.alloc (.cells #[.slice A n c] 24) := ⟨_, rfl⟩
  obtain ⟨wb, hwb⟩ : ∃ z, z = wa.alloc (.cells #[.slice none 0 0] 24) := ⟨_, rfl⟩
  obtain ⟨w0, hw0⟩ : ∃ z, z = wb.alloc (.cells #[.slice none 0 0] 24) := ⟨_, rfl⟩
  obtain ⟨Q1, hQ1⟩ : ∃ z, z = w.heap.size := ⟨_, rfl⟩
  obtain ⟨Q2, hQ2⟩ : ∃ z, z = wa.heap.size := ⟨_, rfl⟩
  obtain ⟨Q3, hQ3⟩ : ∃ z, z = wb.heap.size := ⟨_, rfl⟩
  have e2 : Q2 = w.heap.size + 1 := by rw [hQ2, hwa]; show (w.heap.push _).size = _; exact Array.size_push _
  have e3 : Q3 = w.heap.size + 1 + 1 := by rw [hQ3, hwb]; show (wa.heap.push _).size = _; rw [Array.size_push, ← hQ2, e2]
  have ca : Chg (fun _ => False) w wa := by rw [hwa]; exact (Chg.refl _ _).alloc _
  have cb : Chg (fun _ => False) wa wb := by rw [hwb]; exact (Chg.refl _ _).alloc _
  have c0 : Chg (fun _ => False) wb w0 := by rw [hw0]; exact (Chg.refl _ _).alloc _
  have x1 : w0.heap[Q1]? = some (.cells #[.slice A n c] 24 (0, 0)) := (cb.then c0).heap (by rw [hwa]; exact heap_new' hQ1.symm) (fun x => x)
  have x2 : w0.heap[Q2]? = some (.cells #[.slice none 0 0] 24 (0, 0)) := c0.heap (by rw [hwb]; exact heap_new' hQ2.symm) (fun x => x)
  have x3 : w0.heap[Q3]? = some (.cells #[.slice none 0 0] 24 (0, 0)) := by rw [hw0]; exact heap_new' hQ3.symm
  have b0 : Below w.heap.size w w0 := ((ca.then cb).then c0).below (fun k h => h.elim) (Nat.le_refl _)
  have y1 := cell_of_block x1 0
  simp at y1
  have HB0 := Lib.hid b0
  have HX := Lib.hid (And.intro x1 (And.intro x2 x3))
  have HQ := Lib.hid (And.intro hQ1 (And.intro e2 e3))
  have HWE := Lib.hid (And.intro hwa (And.intro hwb (And.intro hw0 (And.intro e3 (And.intro e2 hQ1)))))
  have HFS := Lib.hid hfs
  have HN := Lib.hid hn
  have HSM := Lib.hid hsm
  clear hwa hwb hw0 hQ1 hQ2 hQ3 e2 e3 ca cb c0 x1 x2 x3 b0 hfs hn hsm
  go_enter Tryz.func7, Tryz.ntmps7
  go_upto_region 2 with fail
  rw [← HWE.out.1, ← HWE.out.2.1, ← HWE.out.2.2.1, ← HWE.out.2.2.2.1, ← HWE.out.2.2.2.2.1, ← HWE.out.2.2.2.2.2]
  have HST : Hid (AllIs w w0 Q1 Q2 Q3 (.slice A n c) (.slice none 0 0) fs 0) := Lib.hid ⟨HX.out.1, HX.out.2.1, HX.out.2.2, ⟨[], World.ownsRow_nil _ _ _ _, fun j f hf => by simp at hf⟩, (fun k h => by cases h), HB0.out⟩
  clear y1
  go_wp2_with fail
  go_loopg [4] (n + 1) (fun k i wr => ∃ (j : Nat) (Vo : Value), j ≤ n ∧ k = n + 1 - j ∧ i = .int .i64 j ∧ Hid (AllIs w wr Q1 Q2 Q3 (.slice A n c) Vo fs j))
  case atStart => exact ⟨0, _, by omega, rfl, rfl, HST⟩
  case round =>
    obtain ⟨j, Vo, hjn, hk, rfl, HI⟩ := hrel
    have HK := Lib.hid hk
    clear hk
    have y1 := cell_of_block HI.out.x1 0
    simp at y1
    by_cases hjl : j < n
    · have hjf : j < fs.length := by rw [← HN.out]; exact hjl
      obtain ⟨b, off, cap, B, cB, e, hb, hcap, ⟨q0, q1, q2, q3, q4⟩, hsrc⟩ := HFS.out.get j hjf
      injection e with e1 e3 e2
      subst e1 e2
      clear e3
      have hkc := Below.chg HI.out.bel
      have q0 := hkc.cell q0 (fun x => x)
      have q1 := hkc.cell q1 (fun x => x)
      have q2 := hkc.cell q2 (fun x => x)
      have q3 := hkc.cell q3 (fun x => x)
      have q4 := hkc.cell q4 (fun x => x)
      have hsf := HSM.out fs[j] (List.getElem_mem _)
      obtain ⟨f, hf⟩ : ∃ f, f = fs[j] := ⟨_, rfl⟩
      rw [← hf] at q0 q1 q2 q3 q4 hsrc hsf
      obtain ⟨nm, ps, vs, ar, l⟩ := f
      simp only at q0 q1 q2 q3 q4 hsrc hsf
      obtain ⟨ln, hln⟩ : ∃ ln, ln = l.length := ⟨_, rfl⟩
      have hcp := hsrc.cap
      rw [← HN.out] at hcap
      obtain ⟨w1, hw1⟩ : ∃ z, z = wr.alloc (.cells #[.string nm, .int .i64 ps, .int .i64 vs, .int .i64 ar, .slice B l.length cB] 31) := ⟨_, rfl⟩
      obtain ⟨P, hP⟩ : ∃ z, z = wr.heap.size := ⟨_, rfl⟩
      have d1 : Chg (fun _ => False) wr w1 := by rw [hw1]; exact (Chg.refl _ _).alloc _
      have p1 : w1.heap[P]? = some (.cells #[.string nm, .int .i64 ps, .int .i64 vs, .int .i64 ar, .slice B l.length cB] 31 (0, 0)) := by rw [hw1]; exact heap_new' hP.symm
      have hs1 : w1.heap.size = P + 1 := by rw [hw1, hP]; simp
      have CF := Lib.hid (fold_any (w := w1) (v := .slice B l.length cB) (l := l) ((hsrc.kept hkc (.inr fun _ _ x => x)).kept d1 (.inr fun _ _ x => x)) hsf.1 hsf.2)
      have t4 := cell_of_block p1 4
      simp at t4
      rw [← hln] at q4 hcp hw1 CF t4 p1
      have HW := Lib.hid (And.intro hw1 (And.intro hP hs1))
      have HD := Lib.hid (And.intro d1 p1)
      have HF := Lib.hid (And.intro hf (And.intro hln hsf))
      have hln63 : ln ≤ 9223372036854775807 := by have := hcp.1; unfold maxLen at this; omega
      clear hw1 hP hs1 d1 hf hln hsrc hsf hb hcp hkc p1
      go_upto_region 6 with fail
      rw [← HW.out.1, ← HW.out.2.1]
      clear q0 q1 q2 q3 q4 y1 hcap
      go_wp2_with fail
      refine CF.out.mono ?_; rintro e w2 ⟨v', rfl, ho2, hn2, hb2⟩
      obtain ⟨lf, hlf⟩ : ∃ z, z = (foldv l).length := ⟨_, rfl⟩
      rw [← hlf] at ho2
      obtain ⟨hlfm, Af, cf, rfl⟩ := ownsRow_slice ho2
      have d2 : Chg (fun _ => False) w1 w2 := Below.chg hb2
      have p2 := d2.heap HD.out.2 (fun x => x)
      have t4 := cell_of_block p2 4
      have ff4 := frozen_of_block p2 4
      simp at t4
      obtain ⟨w3, hw3⟩ : ∃ z, z = w2.setCell ⟨P, 4, none⟩ (.slice Af lf cf) := ⟨_, rfl⟩
      have d3 : Chg (fun k => k = P) w2 w3 := by rw [hw3]; exact Chg.set_cell (w := w2) ⟨P, 4, none⟩ _
      have p3 := heap_set p2 4 (.slice Af lf cf)
      rw [← hw3] at p3
      have s0 := cell_of_block p3 0
      have s1 := cell_of_block p3 1
      have s2 := cell_of_block p3 2
      have s3 := cell_of_block p3 3
      have s4 := cell_of_block p3 4
      simp at s0 s1 s2 s3 s4
      have hQP : Q3 < P := by rw [HW.out.2.1]; exact lt_of_heap HI.out.x3
      have d13 : Chg (fun k => k = P) wr w3 := ((HD.out.1.mono (fun _ _ x => x.elim)).then (d2.mono (fun _ _ x => x.elim))).then d3
      have z3 := cell_of_block (d13.heap HI.out.x3 (fun e => by omega)) 0
      simp at z3
      have ho3 := ownsRow_kept ho2 d3 (fun k hk e => by have := hn2 k hk; have := HW.out.2.2; omega)
      have hfk : ∀ k, (Value.slice Af lf cf).ownBlock = some k → P < k := fun k hk => by have := hn2 k hk; have := HW.out.2.2; omega
      have HW3 := Lib.hid hw3
      have HD3 := Lib.hid (And.intro d13 (And.intro ho3 (And.intro hfk hlf)))
      have HB2 := Lib.hid hb2
      clear ho2 hn2 hb2 d2 p2 hw3 d3 p3 d13 ho3 hfk hlf CF
      go_upto_region 7 with fail
      rw [← HW3.out]
      clear t4 ff4
      obtain ⟨xs, hown, hfx⟩ := HI.out.row
      have hVP : ∀ k, Vo.ownBlock = some k → k ≠ P := fun k hk e => by
        have h1 := ownsRow_lt hown k hk
        rw [e, HW.out.2.1] at h1
        omega
      have hown3 := ownsRow_kept hown HD3.out.1 (fun k hk e => hVP k hk e)
      have hPw : w.heap.size ≤ P := by rw [HW.out.2.1]; exact HI.out.bel.size
      have hb3 : Below w.heap.size wr w3 := HD3.out.1.below (fun k e => by rw [e]; exact hPw) HI.out.bel.size
      have hfx3 : FnX w3 Q3 Vo ((fs.take j).map foldF) xs := hfx.kept HD3.out.1 (fun k e => by right; left; rw [e, HW.out.2.1]; exact Nat.le_refl _) (fun k hk => .inl hk)
      obtain ⟨_, AV, cV, rfl⟩ := ownsRow_slice hown
      obtain ⟨wx, hwx⟩ : ∃ z, z = w3.alloc (.cells #[.string nm, .int .i64 ps, .int .i64 vs, .int .i64 ar, .slice Af lf cf] 31) := ⟨_, rfl⟩
      have hcx : Chg (fun _ => False) w3 wx := by rw [hwx]; exact (Chg.refl _ _).alloc _
      have HROW : Hid (wx.ownsRow 0 31 5 (.slice AV j cV) j xs) := Lib.hid (ownsRow_kept hown3 hcx (fun _ _ x => x))
      have HNEW : Hid (∀ (i : Nat) u, ([.string nm, .int .i64 ps, .int .i64 vs, .int .i64 ar, .slice Af lf cf] : List Value)[i]? = some u → wx.cell? ((⟨w3.heap.size, 0, none⟩ : Addr).add i) = some u) := Lib.hid (World.news_of_block (cs := #[.string nm, .int .i64 ps, .int .i64 vs, .int .i64 ar, .slice Af lf cf]) (t := 31) (fr := (0, 0)) (by rw [hwx]; exact heap_new _ _))
      have HSZ : Hid (wx.heap.size = w3.heap.size + 1) := Lib.hid (by rw [hwx]; simp)
      have HFX : Hid (FnX wx Q3 (.slice AV j cV) ((fs.take j).map foldF) xs) := Lib.hid (hfx3.kept hcx (fun k e => e.elim) (fun k hk => .inl hk))
      obtain ⟨i0, hi, hz0, hz1, hz2⟩ := info_parts infoFn
      have g1 := HI.out.x1
      have g2 := HI.out.x2
      have g3 := HI.out.x3
      have lt3 := lt_of_heap g3
      have hwP : P = wr.heap.size := HW.out.2.1
      have hQ := HQ.out
      have dx : Chg (fun k => k = P) wr wx := HD3.out.1.then (hcx.mono (fun _ _ x => x.elim))
      have HG : Hid (wx.heap[Q1]? = some (.cells #[.slice (some ⟨b, off, none⟩) n c] 24 (0, 0)) ∧ wx.heap[Q2]? = some (.cells #[.slice none 0 0] 24 (0, 0)) ∧ wx.heap[Q3]? = some (.cells #[.slice AV j cV] 24 (0, 0))) := Lib.hid ⟨dx.heap g1 (fun e => by omega), dx.heap g2 (fun e => by omega), dx.heap g3 (fun e => by omega)⟩
      have HOF : Hid (wx.ownsRow 0 42 3 (.slice Af lf cf) lf (insCells (foldv l))) := Lib.hid (ownsRow_kept HD3.out.2.1 hcx (fun _ _ x => x))
      have HX2 := Lib.hid (And.intro hb3 (And.intro hwP (And.intro lt3 (And.intro hcx (And.intro hPw HD3.out.1.size)))))
      have HVF := Lib.hid HI.out.far
      have HVL := Lib.hid (ownsRow_lt HROW.out)
      have HWX := Lib.hid hwx
      have hj1048 : j < 1048576 := by
        have := HN.out
        omega
      clear hown hfx hVP hown3 hfx3 hPw hb3 hwx hcx g1 g2 g3 lt3 hwP hQ dx
      go_wp2_with (at_builtin; rw [← HWX.out]; refine wpList_append_lies _ rfl _ _ _ rfl 0 31 i0 _ 5 64 Tryz.underlying22 hi hz0 hz1 hz2 rfl (by omega) (.slice AV j cV) j xs rfl HROW.out ⟨w3.heap.size, 0, none⟩ 1 1 [.string nm, .int .i64 ps, .int .i64 vs, .int .i64 ar, .slice Af lf cf] rfl rfl HNEW.out (by simp [Value.oneCell']) (by omega) (by unfold maxLen; omega) (by omega) (by omega) (w3.heap.size + 1) HSZ.out ?_; intro g5 cap5 w5 hown5 hgrow5 hat5 hlt5; have hc5 := Chg.of_grown hgrow5; have hg5 : ∀ k, k ≤ Q3 → ¬ (Value.slice AV j cV).ownBlock = some k := (fun k hk e => by have := HVF.out k e; omega); have hb5 := hc5.heap HG.out.2.2 (hg5 Q3 (Nat.le_refl _)); have k0 := cell_of_block hb5 0; have kf := frozen_of_block hb5 0; simp at k0; have HC5 := Lib.hid (And.intro hown5 (And.intro hc5 (And.intro hat5 (And.intro hg5 (And.intro hb5 hlt5))))); clear hown5 hgrow5 hat5 hlt5 hc5 hg5 hb5)
      have hset := Chg.set_cell (w := w5) ⟨Q3, 0, none⟩ (.slice (some ⟨g5, 0, none⟩) (j + 1) cap5)
      have hg3 : Q3 < g5 := by
        have h1 := HX2.out.2.2.1
        have h2 := HX2.out.2.2.2.2.2
        rcases HC5.out.2.2.1 with e | e
        · exact HVF.out g5 e
        · omega
      have HN2 : Hid (AllIs w (w5.setCell ⟨Q3, 0, none⟩ (.slice (some ⟨g5, 0, none⟩) (j + 1) cap5)) Q1 Q2 Q3 (.slice (some ⟨b, off, none⟩) n c) (.slice (some ⟨g5, 0, none⟩) (j + 1) cap5) fs (j + 1)) := Lib.hid (by
        have hQ := HQ.out
        have hjf : j < fs.length := by rw [← HN.out]; exact hjl
        have hrowF := ownsRow_lt HOF.out
        have hlf := HD3.out.2.2.2
        refine ⟨hset.heap (HC5.out.2.1.heap HG.out.1 (HC5.out.2.2.2.1 Q1 (by omega))) (fun e => by have e : Q1 = Q3 := e; omega), hset.heap (HC5.out.2.1.heap HG.out.2.1 (HC5.out.2.2.2.1 Q2 (by omega))) (fun e => by have e : Q2 = Q3 := e; omega), heap_set HC5.out.2.2.2.2.1 0 _, ⟨_, ownsRow_kept HC5.out.1 hset (fun k hk e => by
          have hk : some g5 = some k := hk
          have e : k = Q3 := e
          injection hk with hk
          omega), ?_⟩, fun k hk => by
          have hk : some g5 = some k := hk
          injection hk with hk
          omega, ?_⟩
        · have h5 : FnX wx Q3 (.slice AV j cV) ((fs.take j).map foldF ++ [foldF fs[j]]) (xs ++ [.string nm, .int .i64 ps, .int .i64 vs, .int .i64 ar, .slice Af lf cf]) := by
            have h := FnX.snoc (f := foldF ⟨nm, ps, vs, ar, l⟩) (A := Af) (c := cf) HFX.out (by rw [foldF_len (by omega)]; exact HROW.out.1) (by show Src wx (.slice Af (foldv l).length cf) (foldv l).length (insCells (foldv l)); rw [← hlf]; exact Src.of_row HOF.out) (fun k hk => by
              have hk : (Value.slice Af (foldv l).length cf).ownBlock = some k := hk
              rw [← hlf] at hk
              have h1 := HD3.out.2.2.1 k hk
              have h2 := hrowF k hk
              refine ⟨by have := HX2.out.2.1; have := HX2.out.2.2.1; omega, h2, fun e => ?_⟩
              have h3 : k < wr.heap.size := by
                obtain ⟨xs', ho', _⟩ := HI.out.row
                exact ownsRow_lt ho' k e
              have := HX2.out.2.1
              omega)
            have e : foldF fs[j] = foldF ⟨nm, ps, vs, ar, l⟩ := by rw [← HF.out.1]
            rw [e]
            have e2 : (foldF ⟨nm, ps, vs, ar, l⟩).l.length = lf := by rw [hlf]; rfl
            rw [e2] at h
            exact h
          rw [foldF_snoc hjf]
          have h6 := h5.kept (Vo' := .slice (some ⟨g5, 0, none⟩) (j + 1) cap5) HC5.out.2.1 (fun k hk => .inr (.inr hk)) (fun k hk => by
            have hk : some g5 = some k := hk
            injection hk with hk
            subst hk
            rcases HC5.out.2.2.1 with e | e
            · exact .inl e
            · right; have := HSZ.out; omega)
          exact h6.kept hset (fun k hk => by have hk : k = Q3 := hk; left; omega) (fun k hk => .inl hk)
        · have h1 : Below w.heap.size wr w3 := HX2.out.1
          have h2 : Below w.heap.size w3 wx := HX2.out.2.2.2.1.below (fun k h => h.elim) (Nat.le_trans HI.out.bel.size h1.size)
          have h3 : Below w.heap.size wx w5 := HC5.out.2.1.below (fun k h => by have := HVF.out k h; omega) (Nat.le_trans (Nat.le_trans HI.out.bel.size h1.size) h2.size)
          have h4 : Below w.heap.size w5 (w5.setCell ⟨Q3, 0, none⟩ (.slice (some ⟨g5, 0, none⟩) (j + 1) cap5)) := hset.below (fun k h => by have h : k = Q3 := h; omega) (Nat.le_trans (Nat.le_trans (Nat.le_trans HI.out.bel.size h1.size) h2.size) h3.size)
          exact (((HI.out.bel.trans h1).trans h2).trans h3).trans h4)
      go_roundg (n + 1 - (j + 1))
      case measure => have := HK.out; omega
      case rel => exact ⟨j + 1, _, by omega, rfl, by go_num, HN2⟩
    · obtain rfl : j = n := by omega
      have x2 := HI.out.x2
      have x3 := HI.out.x3
      have w3 := cell_of_block x3 0
      have w2 := cell_of_block x2 0
      have f2 := frozen_of_block x2 0
      simp at w2 w3
      obtain ⟨xs, hown, hcl⟩ := HI.out.row
      obtain ⟨_, AV, cV, rfl⟩ := ownsRow_slice hown
      have HXS := Lib.hid (And.intro hown hcl)
      clear x2 x3 hown hcl
      go_wp2_with fail
      obtain ⟨wf, hwf⟩ : ∃ z, z = wr.setCell ⟨Q2, 0, none⟩ (.slice AV j cV) := ⟨_, rfl⟩
      have hset : Chg (fun k => k = Q2) wr wf := by rw [hwf]; exact Chg.set_cell (w := wr) ⟨Q2, 0, none⟩ _
      have v0 := cell_of_block (heap_set HI.out.x2 0 (.slice AV j cV)) 0
      rw [← hwf] at v0 ⊢
      simp at v0
      refine bodyPost_ret (by simp [results, Tryz.results7, go_sem, v0]; try rfl) rfl ?_
      have hQ := HQ.out
      have hbf : Below w.heap.size w wf := HI.out.bel.trans (hset.below (fun k h => by have h : k = Q2 := h; omega) HI.out.bel.size)
      have et : (fs.take j).map foldF = fs.map foldF := by rw [List.take_of_length_le (by rw [← HN.out]; exact Nat.le_refl _)]
      have hln : (fs.map foldF).length = j := by rw [List.length_map, ← HN.out]
      have hrow := ownsRow_kept HXS.out.1 hset (fun k hk e => by have := HI.out.far k hk; have e : k = Q2 := e; omega)
      have hfx := (HXS.out.2.kept (Vo' := .slice AV j cV) hset (fun k e => by have e : k = Q2 := e; left; omega) (fun k hk => .inl hk)).cells
      rw [et] at hfx
      refine ⟨_, rfl, FnsIs.of_row (by rw [hln]; exact hrow) hfx, hbf⟩
end Go.Proofs.YtahmnmpfjgddpaaGreatDoor
