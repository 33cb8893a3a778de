/- law17: ref. -/
import Derived.Test.YtpjpndndpcebcaaDoorSpecSameW
namespace Go.Proofs.YtpjpndndpcebcaaDoor
set_option linter.unusedVariables false
set_option linter.unusedSimpArgs false
open Go.RowKit

set_option maxHeartbeats 4000000 in
set_option maxRecDepth 100000 in
theorem ref_any {w : World} {V : Value} {l : List InsR} (nm : ByteArray) (ps vs ar : Int) (hs : Src w V l.length (insCells l)) (hm : l.length ≤ 1048576) :
    Calls Tryd.prog 6 #[.agg #[.string nm, .int .i64 ps, .int .i64 vs, .int .i64 ar, V]] w fun e w' => ∃ V', e = .returned (.agg #[.string nm, .int .i64 ps, .int .i64 vs, .int .i64 ar, V']) ∧ w'.ownsRow 0 41 3 V' l.length (insCells l) ∧ (∀ k, V'.ownBlock = some k → w.heap.size ≤ k) ∧ Below w.heap.size w w' := by
  obtain ⟨_, A, c, rfl⟩ := hs.bound
  have HS := Lib.hid hs
  clear hs
  obtain ⟨n, hn⟩ : ∃ n, n = l.length := ⟨_, rfl⟩
  rw [← hn] at hm ⊢
  have HN := Lib.hid hn
  clear hn
  obtain ⟨i0, hi, hz0, hz1, hz2⟩ := info_parts infoRIns
  go_enter Tryd.func6, Tryd.ntmps6
  go_upto_region 2 with fail
  obtain ⟨w0, hw0⟩ : ∃ w0, w0 = ((w.alloc (.cells #[.string nm, .int .i64 ps, .int .i64 vs, .int .i64 ar, .slice A n c] 24)).alloc (.cells #[.string ⟨#[]⟩, .int .i64 0, .int .i64 0, .int .i64 0, .slice none 0 0] 28)).alloc (.cells #[.string nm, .int .i64 ps, .int .i64 vs, .int .i64 ar, .slice none 0 0] 28) := ⟨_, rfl⟩
  obtain ⟨P0, hP0⟩ : ∃ P0, P0 = w.heap.size := ⟨_, rfl⟩
  obtain ⟨P1, hP1⟩ : ∃ P1, P1 = w.heap.size + 1 := ⟨_, rfl⟩
  obtain ⟨P2, hP2⟩ : ∃ P2, P2 = w.heap.size + 1 + 1 := ⟨_, rfl⟩
  have hb0 : Below w.heap.size w w0 := by
    rw [hw0]
    exact (((Below.refl w.heap.size w).alloc (Nat.le_refl _) (.cells #[.string nm, .int .i64 ps, .int .i64 vs, .int .i64 ar, .slice A n c] 24)).alloc (by simp) (.cells #[.string ⟨#[]⟩, .int .i64 0, .int .i64 0, .int .i64 0, .slice none 0 0] 28)).alloc (by simp; omega) (.cells #[.string nm, .int .i64 ps, .int .i64 vs, .int .i64 ar, .slice none 0 0] 28)
  have hx2 : w0.heap[P2]? = some (.cells #[.string nm, .int .i64 ps, .int .i64 vs, .int .i64 ar, .slice none 0 0] 28 (0, 0)) := by rw [hw0]; exact heap_new' (by simp [hP2])
  have hx1 : w0.heap[P1]? = some (.cells #[.string ⟨#[]⟩, .int .i64 0, .int .i64 0, .int .i64 0, .slice none 0 0] 28 (0, 0)) := by rw [hw0]; exact ((Chg.refl (fun _ => False) _).alloc _).heap (heap_new' (by simp [hP1])) (fun x => x)
  have hx0 : w0.heap[P0]? = some (.cells #[.string nm, .int .i64 ps, .int .i64 vs, .int .i64 ar, .slice A n c] 24 (0, 0)) := by rw [hw0]; exact (((Chg.refl (fun _ => False) _).alloc _).alloc _).heap (heap_new' hP0.symm) (fun x => x)
  rw [← hw0, ← hP2, ← hP1, ← hP0]
  have HPP : Hid (P0 = w.heap.size ∧ P1 = P0 + 1 ∧ P2 = P0 + 2) := Lib.hid ⟨hP0, by omega, by omega⟩
  have HX0 := Lib.hid hx0
  have HX1 := Lib.hid hx1
  have HX2 := Lib.hid hx2
  have HB0 := Lib.hid hb0
  clear hw0 hP0 hP1 hP2 hb0 hx0 hx1 hx2
  go_wp2_with fail
  go_loopg [4] n (fun kk i wr => ∃ j : Nat, j ≤ n ∧ kk = n - j ∧ i = .int .i64 j ∧ (∃ AV cV, Hid (wr.heap[P2]? = some (.cells #[.string nm, .int .i64 ps, .int .i64 vs, .int .i64 ar, .slice AV j cV] 28 (0, 0))) ∧ Hid (wr.ownsRow 0 41 3 (.slice AV j cV) j (insCells (l.take j))) ∧ Hid (∀ k, (Value.slice AV j cV).ownBlock = some k → P2 < k)) ∧ Hid (wr.heap[P0]? = some (.cells #[.string nm, .int .i64 ps, .int .i64 vs, .int .i64 ar, .slice A n c] 24 (0, 0))) ∧ Hid (wr.heap[P1]? = some (.cells #[.string ⟨#[]⟩, .int .i64 0, .int .i64 0, .int .i64 0, .slice none 0 0] 28 (0, 0))) ∧ Hid (Below w.heap.size w wr))
  case atStart => exact ⟨0, by omega, rfl, rfl, ⟨none, 0, HX2, Lib.hid (World.ownsRow_nil _ _ _ _), Lib.hid (fun _ e => by cases e)⟩, HX0, HX1, HB0⟩
  case round =>
    obtain ⟨j, hj, hk, rfl, ⟨AV, cV, HBX, HO, HOB⟩, HY0, HY1, HW⟩ := hrel
    have HK := Lib.hid hk
    clear hk HX0 HX1 HX2 HB0
    have y4 := cell_of_block HY0.out 4
    simp at y4
    by_cases hlt : j < n
    · obtain ⟨b, off, cap, hA, hbs, hcap, c0, c1, c2⟩ := HS.out.get j (by have := HN.out; omega)
      have hA : Value.slice A l.length c = .slice (some ⟨b, off, none⟩) l.length cap := hA
      injection hA with hA1 _ hA3
      subst hA1 hA3
      obtain ⟨op, hop⟩ : ∃ op, op = (l[j]'(by have := HN.out; omega)).op := ⟨_, rfl⟩
      obtain ⟨a, ha⟩ : ∃ a, a = (l[j]'(by have := HN.out; omega)).a := ⟨_, rfl⟩
      obtain ⟨nn, hnn⟩ : ∃ nn, nn = (l[j]'(by have := HN.out; omega)).n := ⟨_, rfl⟩
      rw [← hop] at c0
      rw [← ha] at c1
      rw [← hnn] at c2
      have HTK : Hid (l.take (j + 1) = l.take j ++ [⟨op, a, nn⟩]) := Lib.hid (by rw [List.take_succ_eq_append_getElem (by have := HN.out; omega), hop, ha, hnn])
      clear hop ha hnn
      have hrw : j < 1048576 := by omega
      -- what stays at its place in each world behind
      have SCX : Hid (∀ w', Below w.heap.size w w' → w'.heap[P2]? = some (.cells #[.string nm, .int .i64 ps, .int .i64 vs, .int .i64 ar, .slice AV j cV] 28 (0, 0)) → w'.heap[P0]? = some (.cells #[.string nm, .int .i64 ps, .int .i64 vs, .int .i64 ar, .slice (some ⟨b, off, none⟩) n c] 24 (0, 0)) → w'.cell? ⟨P2, 4, none⟩ = some (.slice AV j cV) ∧ w'.cell? ⟨P0, 4, none⟩ = some (.slice (some ⟨b, off, none⟩) n c) ∧ w'.cell? ⟨b, off + j * 3, none⟩ = some (.int .i64 op) ∧ w'.cell? ⟨b, off + j * 3 + 1, none⟩ = some (.int .i64 a) ∧ w'.cell? ⟨b, off + j * 3 + 2, none⟩ = some (.int .i64 nn)) := Lib.hid (fun w' hb h2 h0 => ⟨by have := cell_of_block h2 4; simpa using this, by have := cell_of_block h0 4; simpa using this, (Below.chg hb).cell c0 (fun x => x), (Below.chg hb).cell c1 (fun x => x), (Below.chg hb).cell c2 (fun x => x)⟩)
      clear c0 c1 c2
      go_upto_region 5 with fail
      obtain ⟨wd, hwd⟩ : ∃ wd, wd = wr.drew := ⟨_, rfl⟩
      have hb : Below w.heap.size w wd := by rw [hwd]; exact HW.out.drew
      have hcd : Chg (fun _ => False) wr wd := by rw [hwd]; exact (Chg.refl _ _).drewN 1
      have hS := SCX.out wd hb (hcd.heap HBX.out (fun x => x)) (hcd.heap HY0.out (fun x => x))
      refine wp_region_ord (S := fun w' => w'.cell? ⟨P2, 4, none⟩ = some (.slice AV j cV) ∧ w'.cell? ⟨P0, 4, none⟩ = some (.slice (some ⟨b, off, none⟩) n c) ∧ w'.cell? ⟨b, off + j * 3, none⟩ = some (.int .i64 op) ∧ w'.cell? ⟨b, off + j * 3 + 1, none⟩ = some (.int .i64 a) ∧ w'.cell? ⟨b, off + j * 3 + 2, none⟩ = some (.int .i64 nn)) (N := fun i => i != 24) (by kernel_rfl) [(0, true), (1, true), (2, true), (3, true), (4, true), (5, true), (6, true), (7, true), (8, true), (9, true), (10, true), (11, true), (12, true), (13, true), (14, true), (15, true), (16, true), (17, true), (18, true), (19, true), (20, true), (21, false), (22, false), (23, true), (24, false)] (by kernel_rfl) ?_
      rw [← hwd]
      clear hwd y4
      iterate 21 (refine ord_look rfl hS rfl (by intro w hS; obtain ⟨s0, s1, p0, p1, p2⟩ := hS; go_simp; with_reducible rfl) (fun c a w h => h) ?_; simp only [Act.put, List.setIfInBounds_toArray, List.set_cons_succ, List.set_cons_zero])
      refine ord_act rfl rfl (fun K hK => ?_)
      go_simp
      obtain ⟨wx, hwx⟩ : ∃ wx, wx = wd.alloc (.cells #[.int .i64 op, .int .i64 a, .int .i64 nn] 41) := ⟨_, rfl⟩
      obtain ⟨g, hg⟩ : ∃ g, g = wd.heap.size := ⟨_, rfl⟩
      rw [← hwx, ← hg]
      have hbx : Below w.heap.size w wx := by rw [hwx]; exact hb.alloc hb.size _
      have hgx : wx.heap[g]? = some (.cells #[.int .i64 op, .int .i64 a, .int .i64 nn] 41 (0, 0)) := by rw [hwx]; exact heap_new' hg.symm
      have hcx : Chg (fun _ => False) wr wx := by rw [hwx]; exact hcd.alloc _
      have hx2 := hcx.heap HBX.out (fun x => x)
      have hx0 := hcx.heap HY0.out (fun x => x)
      have hx1 := hcx.heap HY1.out (fun x => x)
      have hP2l : P2 < wx.heap.size := lt_of_heap hx2
      replace hS := SCX.out wx hbx hx2 hx0
      refine hK _ _ ⟨fun _ => hS, ?_⟩
      clear hK K hwx hg
      try simp only [Act.put, List.setIfInBounds_toArray, List.set_cons_succ, List.set_cons_zero]
      have hrowx := ownsRow_kept HO.out hcx (fun _ _ x => x)
      have hnews := World.news_of_block hgx
      refine ord_act rfl rfl (fun K hK => ?_)
      refine wp_append_lies _ (.tmp 22) (.tmp 42) 26 rfl 0 41 i0 _ 3 24 Tryd.underlying26 hi hz0 hz1 hz2 rfl (by omega) (.slice AV j cV) j (insCells (l.take j)) rfl hrowx ⟨g, 0, none⟩ 1 1 [.int .i64 op, .int .i64 a, .int .i64 nn] rfl rfl hnews (by simp [Value.oneCell']) (by omega) (by unfold maxLen; omega) (by omega) (by omega) wx.heap.size rfl ?_
      intro g2 cap2 w2 hown2 hgrow2 hat2 hlt2
      have hc2 := Chg.of_grown hgrow2
      have hne : ∀ k, (Value.slice AV j cV).ownBlock = some k → P2 < k := HOB.out
      have hg2 : P2 < g2 := by
        rcases hat2 with h | h
        · exact hne _ h
        · omega
      have hy2 := hc2.heap hx2 (fun e => by have := hne _ e; omega)
      have hy0 := hc2.heap hx0 (fun e => by have := hne _ e; have := HPP.out; omega)
      have hy1 := hc2.heap hx1 (fun e => by have := hne _ e; have := HPP.out; omega)
      have hb2 : Below w.heap.size w w2 := hbx.trans (hc2.below (B := w.heap.size) (fun k hk => by have := hne _ hk; have := HPP.out; omega) hbx.size)
      have hS2 := SCX.out w2 hb2 hy2 hy0
      have kf := frozen_of_block hy2 4
      refine hK _ _ ⟨fun _ => hS2, ?_⟩
      clear hK K hS hrowx hnews
      try simp only [Act.put, List.setIfInBounds_toArray, List.set_cons_succ, List.set_cons_zero]
      (refine ord_look rfl hS2 rfl (by intro w hS; obtain ⟨s0, s1, p0, p1, p2⟩ := hS; go_simp; with_reducible rfl) (fun c a w h => h) ?_; simp only [Act.put, List.setIfInBounds_toArray, List.set_cons_succ, List.set_cons_zero])
      refine ord_act rfl rfl (fun K hK => ?_)
      have k1 := hS2.1
      obtain ⟨w5, hw5⟩ : ∃ w5, w5 = w2.setCell ⟨P2, 4, none⟩ (.slice (some ⟨g2, 0, none⟩) (j + 1) cap2) := ⟨_, rfl⟩
      have hset : Chg (fun k => k = P2) w2 w5 := by rw [hw5]; exact Chg.set_cell ⟨P2, 4, none⟩ _
      have HBN : Hid (w5.heap[P2]? = some (.cells #[.string nm, .int .i64 ps, .int .i64 vs, .int .i64 ar, .slice (some ⟨g2, 0, none⟩) (j + 1) cap2] 28 (0, 0))) := Lib.hid (by rw [hw5]; exact heap_set hy2 4 _)
      have HON : Hid (w5.ownsRow 0 41 3 (.slice (some ⟨g2, 0, none⟩) (j + 1) cap2) (j + 1) (insCells (l.take (j + 1)))) := Lib.hid (by
        rw [HTK.out, insCells_snoc]
        exact ownsRow_kept hown2 hset (fun k hk e => by
          obtain rfl : g2 = k := by injection hk
          omega))
      have HOBN : Hid (∀ k, (Value.slice (some ⟨g2, 0, none⟩) (j + 1) cap2).ownBlock = some k → P2 < k) := Lib.hid (fun k hk => by
        obtain rfl : g2 = k := by injection hk
        exact hg2)
      have HN0 := Lib.hid (hset.heap hy0 (fun e => by have := HPP.out; omega))
      have HN1 := Lib.hid (hset.heap hy1 (fun e => by have := HPP.out; omega))
      have HBE5 : Hid (Below w.heap.size w w5) := Lib.hid (hb2.trans (hset.below (B := w.heap.size) (fun k hk => by have := HPP.out; omega) hb2.size))
      go_simp
      rw [← hw5]
      clear hw5 hset hy0 hy1 hy2
      refine hK _ _ ⟨fun h => absurd h (by decide), ?_⟩
      clear hK K
      refine ord_end ?_
      clear k1 kf hS2
      go_wp2_with fail
      go_roundg (n - (j + 1))
      case measure => have := HK.out; omega
      case rel => exact ⟨j + 1, by omega, rfl, by go_num, ⟨_, _, HBN, HON, HOBN⟩, HN0, HN1, HBE5⟩
    · have hjn : j = n := by omega
      subst hjn
      have x0 := cell_of_block HBX.out 0
      have x1 := cell_of_block HBX.out 1
      have x2 := cell_of_block HBX.out 2
      have x3 := cell_of_block HBX.out 3
      have x4 := cell_of_block HBX.out 4
      have z0 := cell_of_block HY1.out 0
      have z1 := cell_of_block HY1.out 1
      have z2 := cell_of_block HY1.out 2
      have z3 := cell_of_block HY1.out 3
      have z4 := cell_of_block HY1.out 4
      simp at x0 x1 x2 x3 x4 z0 z1 z2 z3 z4
      have f0 := frozen_of_block HY1.out 0
      have f1 := frozen_of_block HY1.out 1
      have f2 := frozen_of_block HY1.out 2
      have f3 := frozen_of_block HY1.out 3
      have f4 := frozen_of_block HY1.out 4
      obtain ⟨wf, hwf⟩ : ∃ wf, wf = ((((wr.setCell ⟨P1, 0, none⟩ (.string nm)).setCell ⟨P1, 1, none⟩ (.int .i64 ps)).setCell ⟨P1, 2, none⟩ (.int .i64 vs)).setCell ⟨P1, 3, none⟩ (.int .i64 ar)).setCell ⟨P1, 4, none⟩ (.slice AV j cV) := ⟨_, rfl⟩
      have hchg : Chg (fun k => k = P1) wr wf := by
        rw [hwf]
        exact (((((Chg.refl (fun k => k = P1) wr).setCell (p := ⟨P1, 0, none⟩) (fun _ => rfl) _).setCell (p := ⟨P1, 1, none⟩) (fun _ => rfl) _).setCell (p := ⟨P1, 2, none⟩) (fun _ => rfl) _).setCell (p := ⟨P1, 3, none⟩) (fun _ => rfl) _).setCell (p := ⟨P1, 4, none⟩) (fun _ => rfl) _
      have hrf : wf.heap[P1]? = some (.cells #[.string nm, .int .i64 ps, .int .i64 vs, .int .i64 ar, .slice AV j cV] 28 (0, 0)) := by
        rw [hwf]
        exact heap_set (heap_set (heap_set (heap_set (heap_set HY1.out 0 _) 1 _) 2 _) 3 _) 4 _
      have HFF := Lib.hid (And.intro hchg hrf)
      have HWF := Lib.hid hwf
      have HRR : Hid (wf.ownsRow 0 41 3 (.slice AV j cV) j (insCells l)) := Lib.hid (by
        have h := ownsRow_kept HO.out hchg (fun k hk e => by have := HOB.out k hk; have := HPP.out; omega)
        have e : l.take j = l := by rw [HN.out, List.take_length]
        rw [e] at h
        exact h)
      have HBF : Hid (Below w.heap.size w wf) := Lib.hid (HW.out.trans (hchg.below (B := w.heap.size) (fun k hk => by have := HPP.out; omega) HW.out.size))
      clear hchg hrf hwf
      go_wp2_with fail
      rw [← HWF.out]
      have g0 := cell_of_block HFF.out.2 0
      have g1 := cell_of_block HFF.out.2 1
      have g2 := cell_of_block HFF.out.2 2
      have g3 := cell_of_block HFF.out.2 3
      have g4 := cell_of_block HFF.out.2 4
      simp at g0 g1 g2 g3 g4
      exact bodyPost_ret (v := .agg #[.string nm, .int .i64 ps, .int .i64 vs, .int .i64 ar, .slice AV j cV]) (by simp [results, Tryd.results6, go_sem, g0, g1, g2, g3, g4]) rfl ⟨_, rfl, HRR.out, fun k hk => by have := HOB.out k hk; have := HPP.out; omega, HBF.out⟩
end Go.Proofs.YtpjpndndpcebcaaDoor
