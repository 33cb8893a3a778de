/- interp: Run. -/
import Derived.Test.YtdpimkbdieafgaaDoorIntL
import Derived.Handy
namespace Go.Proofs.YtdpimkbdieafgaaDoor
set_option linter.unusedVariables false
set_option linter.unusedSimpArgs false
open Go.RowKit

theorem run_all {W0 : World} {fs : List FnR} {V : Value} (hC : Ctx W0 fs V) (m : Nat) : ∀ μ, CallH W0 fs V m μ
  | 0 => call_of_run hC (fun w X d g fn args VA B c n hm hg hμ => by omega)
  | μ + 1 => call_of_run hC (run_step hC (run_all hC m μ))

structure OutR where
  pr : List Int
  ke : List Int
  cl : List Int
  clk : Int
  res : Int
  err : Int
def OutIs (w : World) (v : Value) (o : OutR) : Prop := ∃ P K C, v = .agg #[P, K, C, .int .i64 o.clk, .int .i64 o.res, .int .i64 o.err] ∧ NumSrc w P o.pr ∧ NumSrc w K o.ke ∧ NumSrc w C o.cl
/-- the rows of an outcome lie in new memory -/
def FreshV (lo hi : Nat) (v : Value) : Prop := ∃ P K C a b c, v = .agg #[P, K, C, a, b, c] ∧ ∀ V ∈ [P, K, C], ∀ k, V.ownBlock = some k → lo ≤ k ∧ k < hi
def startG (i0 i1 : List Int) (fuel quota : Int) : GS := ⟨0, clampf fuel, clampq quota, [], i0, i1, [], [], []⟩
def RunO (fs : List FnR) (i0 i1 : List Int) (fuel quota : Int) (o : OutR) : Prop :=
  (¬ CodeOk fs ∧ o = ⟨[], [], [], 0, 0, 6⟩) ∨ (CodeOk fs ∧ ∃ g', Rand fs (newFr fs 0 []) 1 (startG i0 i1 fuel quota) o.res o.err g' ∧ o.pr = g'.pr ∧ o.ke = g'.ke ∧ o.cl = g'.cl ∧ o.clk = g'.now)

/-- a machine is made -/
structure Born (W0 w0 w : World) (m : Nat) (V : Value) (g : GS) : Prop where
  mm : Mm W0 w (fun k => w0.heap.size ≤ k ∧ k < w.heap.size) m V 0 g
  chg : Chg (fun _ => False) w0 w
theorem mach_new {W0 w0 w : World} {V I0 I1 : Value} {i0 i1 : List Int} {mt hp : Nat} {S : Nat → Prop} {fuel quota : Int} (hb : Below W0.heap.size W0 w0) (hc : Chg (fun _ => False) w0 w) (hM : MetIs w mt 0 (clampf fuel)) (hH : HeapIs w S hp (clampq quota) []) (h0 : NumSrc W0 I0 i0) (h1 : NumSrc W0 I1 i1)
    (hs : w0.heap.size ≤ mt ∧ (∀ k, S k → mt ≠ k) ∧ ∀ k, S k → w0.heap.size ≤ k) :
    Born W0 w0 (w.alloc (.cells #[.pointer (some ⟨mt, 0, none⟩), .pointer (some ⟨hp, 0, none⟩), V, I0, I1, .nilIface, .int .i64 0, .slice none 0 0, .slice none 0 0, .slice none 0 0, .int .i64 0, .int .i64 0, .int .i64 0] 61)) w.heap.size V ⟨0, clampf fuel, clampq quota, [], i0, i1, [], [], []⟩ := by
  have ha := (Chg.refl (fun _ => False) w).alloc (.cells #[.pointer (some ⟨mt, 0, none⟩), .pointer (some ⟨hp, 0, none⟩), V, I0, I1, .nilIface, .int .i64 0, .slice none 0 0, .slice none 0 0, .slice none 0 0, .int .i64 0, .int .i64 0, .int .i64 0] 61)
  have hml := lt_of_heap hM
  have hsz : (w.alloc (.cells #[.pointer (some ⟨mt, 0, none⟩), .pointer (some ⟨hp, 0, none⟩), V, I0, I1, .nilIface, .int .i64 0, .slice none 0 0, .slice none 0 0, .slice none 0 0, .int .i64 0, .int .i64 0, .int .i64 0] 61)).heap.size = w.heap.size + 1 := by show (w.heap.push _).size = _; exact Array.size_push _
  have hH2 := (hH.bound).kept ha (fun _ _ x => x)
  refine ⟨⟨⟨mt, hp, fun k => S k ∧ k < w.heap.size, I0, I1, .slice none 0 0, .slice none 0 0, .slice none 0 0, ⟨heap_new _ _, hM.kept ha (fun x => x), hH2, h0, h1, World.ownsRow_nil _ _ _ _, World.ownsRow_nil _ _ _ _, World.ownsRow_nil _ _ _ _, by omega, fun h => by omega, fun h => hs.2.1 _ h.1 rfl, fun k hk => by rw [hsz]; omega, ⟨(fun h => by cases h), (fun h => by cases h), (fun k h => by cases h)⟩, ⟨(fun h => by cases h), (fun h => by cases h), (fun k h => by cases h)⟩, ⟨(fun h => by cases h), (fun h => by cases h), (fun k h => by cases h)⟩, (fun k h => by cases h), (fun k h => by cases h), (fun k h => by cases h)⟩, ⟨⟨hc.size, by rw [hsz]; omega⟩, ⟨hs.1, by rw [hsz]; omega⟩, fun k hk => ⟨hs.2.2 k hk.1, by rw [hsz]; omega⟩, (fun k h => by cases h), (fun k h => by cases h), (fun k h => by cases h)⟩⟩, ?_, fun k hk => ⟨Nat.le_trans hb.size hk.1, hk.2⟩⟩, hc.then ha⟩
  exact hb.trans ((hc.then ha).below (B := W0.heap.size) (fun k h => h.elim) hb.size)

set_option maxHeartbeats 8000000 in
set_option maxRecDepth 100000 in
theorem run_any {w : World} {A : Option Addr} {c : Nat} {fs : List FnR} {I0 I1 : Value} {i0 i1 : List Int} {fuel quota : Int} (hs : SortsIs w) (hfs : FnsIs w (.slice A fs.length c) fs) (hkn : fs.length ≤ 1048576) (hl : ∀ f ∈ fs, f.l.length ≤ 1048576) (h0 : NumSrc w I0 i0) (h1 : NumSrc w I1 i1) (hfu : fuel ≤ 1048576) :
    Calls Tryd.prog 12 #[.agg #[.slice A fs.length c], .agg #[I0, I1], .int .i64 fuel, .int .i64 quota, .nilIface] w fun e w' => ∃ v o, e = .returned v ∧ OutIs w' v o ∧ RunO fs i0 i1 fuel quota o ∧ Below w.heap.size w w' ∧ FreshV w.heap.size w'.heap.size v := by
  have h0' := h0
  have h1' := h1
  obtain ⟨A0, d0, e0, _⟩ := h0'
  obtain ⟨A1, d1, e1, _⟩ := h1'
  obtain ⟨n0, hn0⟩ : ∃ n0, n0 = i0.length := ⟨_, rfl⟩
  obtain ⟨n1, hn1⟩ : ∃ n1, n1 = i1.length := ⟨_, rfl⟩
  obtain ⟨k, hk⟩ : ∃ k, k = fs.length := ⟨_, rfl⟩
  rw [← hn0] at e0
  rw [← hn1] at e1
  subst e0 e1
  rw [← hk]
  obtain ⟨wa, hwa⟩ : ∃ z, z = w.alloc (.cells #[.slice A k c] 24) := ⟨_, rfl⟩
  obtain ⟨B5, hB5⟩ : ∃ z, z = w.heap.size := ⟨_, rfl⟩
  obtain ⟨wb, hwb⟩ : ∃ z, z = wa.alloc (.cells #[.slice A0 n0 d0, .slice A1 n1 d1] 27) := ⟨_, rfl⟩
  obtain ⟨B6, hB6⟩ : ∃ z, z = wa.heap.size := ⟨_, rfl⟩
  obtain ⟨w0, hw0⟩ : ∃ z, z = wb.alloc (.cells #[.slice none 0 0, .slice none 0 0, .slice none 0 0, .int .i64 0, .int .i64 0, .int .i64 0] 32) := ⟨_, rfl⟩
  obtain ⟨T, hT⟩ : ∃ z, z = wb.heap.size := ⟨_, rfl⟩
  have ca : Chg (fun _ => False) w wa := by rw [hwa]; exact (Chg.refl _ _).alloc _
  have cb : Chg (fun _ => False) wa wb := by rw [hwb]; exact (Chg.refl _ _).alloc _
  have c0 : Chg (fun _ => False) wb w0 := by rw [hw0]; exact (Chg.refl _ _).alloc _
  have b5 : w0.heap[B5]? = some (.cells #[.slice A k c] 24 (0, 0)) := (cb.then c0).heap (by rw [hwa]; exact heap_new' hB5.symm) (fun x => x)
  have b6 : w0.heap[B6]? = some (.cells #[.slice A0 n0 d0, .slice A1 n1 d1] 27 (0, 0)) := c0.heap (by rw [hwb]; exact heap_new' hB6.symm) (fun x => x)
  have bT : w0.heap[T]? = some (.cells #[.slice none 0 0, .slice none 0 0, .slice none 0 0, .int .i64 0, .int .i64 0, .int .i64 0] 32 (0, 0)) := by rw [hw0]; exact heap_new' hT.symm
  have hb0 : Below w.heap.size w w0 := ((ca.then cb).then c0).below (fun k h => h.elim) (Nat.le_refl _)
  have hTl : w.heap.size ≤ T := by rw [hT]; exact (ca.then cb).size
  have CC := Lib.hid (code_any (w := w0) (A := A) (c := c) (hs.keep hb0) (hfs.keep hb0) hkn hl)
  rw [← hk] at CC hfs
  have e6 : B6 = w.heap.size + 1 := by rw [hB6, hwa]; show (w.heap.push _).size = _; exact Array.size_push _
  have eT : T = w.heap.size + 1 + 1 := by rw [hT, hwb]; show (wa.heap.push _).size = _; rw [Array.size_push, ← hB6, e6]
  have HWE := Lib.hid (And.intro hwa (And.intro hwb (And.intro hw0 (And.intro eT (And.intro e6 hB5)))))
  have HB0 := Lib.hid hb0
  have HBX := Lib.hid (And.intro b5 (And.intro b6 (And.intro bT hTl)))
  have x0 := cell_of_block b5 0
  simp at x0
  have HS := Lib.hid hs
  have HFS := Lib.hid hfs
  have HL := Lib.hid hl
  have HNS := Lib.hid (And.intro h0 h1)
  obtain ⟨Z, hZ⟩ : ∃ Z, Z = codev fs := ⟨_, rfl⟩
  rw [← hZ] at CC
  have HZ := Lib.hid hZ
  have HFU := Lib.hid hfu
  have HK := Lib.hid (And.intro hk hkn)
  clear e6 eT hwa hB5 hwb hB6 hw0 hT ca cb c0 b5 b6 bT hb0 hTl hs hfs hl h0 h1 hZ hk hn0 hn1 hkn hfu
  go_enter Tryd.func12, Tryd.ntmps12
  go_upto_region 1 with fail
  rw [← HWE.out.1, ← HWE.out.2.1, ← HWE.out.2.2.1, ← HWE.out.2.2.2.1, ← HWE.out.2.2.2.2.1, ← HWE.out.2.2.2.2.2]
  go_wp2_with fail
  refine CC.out.mono ?_; rintro e w1 ⟨rfl, hb1⟩
  clear CC x0
  have hc1 := Below.chg hb1
  have y5 := hc1.heap HBX.out.1 (fun x => x)
  have y6 := hc1.heap HBX.out.2.1 (fun x => x)
  have yT := hc1.heap HBX.out.2.2.1 (fun x => x)
  have HB1 := Lib.hid (bel_trans HB0.out hb1)
  by_cases hco : CodeOk fs
  · obtain rfl : Z = 0 := by rw [HZ.out]; exact codev_ok hco
    have HCO := Lib.hid hco
    have HSK : Hid (∀ w', Chg (fun _ => False) w1 w' → w'.cell? ⟨B5, 0, none⟩ = some (.slice A k c) ∧ w'.cell? ⟨B6, 0, none⟩ = some (.slice A0 n0 d0) ∧ w'.cell? ⟨B6, 1, none⟩ = some (.slice A1 n1 d1)) := Lib.hid (fun w' hc => by
      have z0 := cell_of_block (hc.heap y5 (fun x => x)) 0
      have z1 := cell_of_block (hc.heap y6 (fun x => x)) 0
      have z2 := cell_of_block (hc.heap y6 (fun x => x)) 1
      simp at z0 z1 z2
      exact ⟨z0, z1, z2⟩)
    have HYT := Lib.hid yT
    clear hco hb1 hc1 y5 y6 yT
    obtain ⟨Q1, hq1⟩ : ∃ Q1, (if quota < 0 then 0 else quota) = Q1 := ⟨_, rfl⟩
    obtain ⟨Q, hq2⟩ : ∃ Q, (if 1048576 < Q1 then 1048576 else Q1) = Q := ⟨_, rfl⟩
    have HQ : Hid (clampq Q = clampq quota) := Lib.hid (by rw [← hq2, ← hq1]; unfold clampq; repeat' split <;> omega)
    go_upto_region 3 with fail
    go_cut [11] from 16 to 30 (fun v wx => ∃ m : Nat, v = .pointer (some ⟨m, 0, none⟩) ∧ Hid (Born w w1 wx m (.slice A k c) (startG i0 i1 fuel quota)))
    case first J K' hJ hK' =>
      obtain ⟨wd, hwd⟩ : ∃ wd, wd = w1.drew := ⟨_, rfl⟩
      have hcd : Chg (fun _ => False) w1 wd := by rw [hwd]; exact (Chg.refl _ _).drew
      have hS := HSK.out wd hcd
      refine wp_region_tree (S := fun w' => w'.cell? ⟨B5, 0, none⟩ = some (.slice A k c) ∧ w'.cell? ⟨B6, 0, none⟩ = some (.slice A0 n0 d0) ∧ w'.cell? ⟨B6, 1, none⟩ = some (.slice A1 n1 d1)) (N := fun i => true) (by kernel_rfl) (.look 0 (.look 2 (.look 3 (.look 4 (.look 6 (.look 7 (.look 8 (.look 9 (.look 10 (.look 11 (.look 12 (.act 1 (.act 5 (.look 13 (.act 14 (.look 15 .done)))))))))))))))) (by kernel_rfl) ?_
      rw [← hwd]
      clear hwd
      iterate 11 (refine tree_look rfl hS rfl (by intro w hS; obtain ⟨p0, p1, p2⟩ := hS; go_simp; with_reducible rfl) (fun c a w h => h) ?_; simp only [Act.put, List.setIfInBounds_toArray, List.set_cons_succ, List.set_cons_zero])
      refine tree_act rfl rfl (fun K hK => ?_)
      refine wp_call 20 _ _ Tryd.func20 rfl (by kernel_rfl) _ _ rfl #[.int .i64 fuel] (by simp [Act.eval]) (R := fun v w' => v = .pointer (some ⟨wd.heap.size, 0, none⟩) ∧ MetIs w' wd.heap.size 0 (clampf fuel) ∧ Chg (fun _ => False) wd w') (calls_ret (meter_new_any fuel wd) (by rintro e w' ⟨rfl, h⟩; exact ⟨_, rfl, rfl, h⟩)) ?_
      obtain ⟨mt, hmt⟩ : ∃ z, z = wd.heap.size := ⟨_, rfl⟩
      rw [← hmt]
      have HMT := Lib.hid hmt
      clear hmt
      rintro v y1 ⟨rfl, bM, cM⟩
      have hSn := HSK.out y1 (hcd.then cM)
      refine hK _ _ ⟨fun _ => hSn, ?_⟩
      clear hK K hS
      have hS := hSn
      clear hSn
      try simp only [Act.put, List.setIfInBounds_toArray, List.set_cons_succ, List.set_cons_zero]
      refine tree_act rfl rfl (fun K hK => ?_)
      refine wp_call 21 _ _ Tryd.func21 rfl (by kernel_rfl) _ _ rfl #[.int .i64 Q] (by simp [Act.eval]) (R := fun v w' => ∃ hp, v = .pointer (some ⟨hp, 0, none⟩) ∧ HeapIs w' (fun k => y1.heap.size ≤ k) hp (clampq Q) [] ∧ Chg (fun _ => False) y1 w') (calls_ret (heap_new_any Q y1) (by rintro e w' ⟨g, rfl, h⟩; exact ⟨_, rfl, g, rfl, h⟩)) ?_
      rintro v y2 ⟨hp, rfl, bH, cH⟩
      have hSn := HSK.out y2 ((hcd.then cM).then cH)
      refine hK _ _ ⟨fun _ => hSn, ?_⟩
      clear hK K hS
      have hS := hSn
      clear hSn
      try simp only [Act.put, List.setIfInBounds_toArray, List.set_cons_succ, List.set_cons_zero]
      iterate 1 (refine tree_look rfl hS rfl (by intro w hS; obtain ⟨p0, p1, p2⟩ := hS; go_simp; with_reducible rfl) (fun c a w h => h) ?_; simp only [Act.put, List.setIfInBounds_toArray, List.set_cons_succ, List.set_cons_zero])
      refine tree_act rfl rfl (fun K hK => ?_)
      have hbg := mach_new (W0 := w) (w0 := w1) (w := y2) (V := .slice A k c) (I0 := .slice A0 n0 d0) (I1 := .slice A1 n1 d1) (i0 := i0) (i1 := i1) HB1.out ((hcd.then cM).then cH) (bM.kept cH (fun x => x)) (bH) HNS.out.1 HNS.out.2 (⟨by have := lt_of_heap bM; rw [HMT.out] at this ⊢; have := hcd.size; omega, fun k hk => by have := lt_of_heap bM; omega, fun k hk => Nat.le_trans (hcd.then cM).size hk⟩)
      have hcz : Chg (fun _ => False) w1 (y2.alloc (.cells #[.pointer (some ⟨mt, 0, none⟩), .pointer (some ⟨hp, 0, none⟩), .slice A k c, .slice A0 n0 d0, .slice A1 n1 d1, .nilIface, .int .i64 0, .slice none 0 0, .slice none 0 0, .slice none 0 0, .int .i64 0, .int .i64 0, .int .i64 0] 61)) := ((hcd.then cM).then cH).alloc _
      go_simp
      have hSn := HSK.out _ hcz
      refine hK _ _ ⟨fun _ => hSn, ?_⟩
      clear hK K hS
      have hS := hSn
      clear hSn
      try simp only [Act.put, List.setIfInBounds_toArray, List.set_cons_succ, List.set_cons_zero]
      iterate 1 (refine tree_look rfl hS rfl (by intro w hS; obtain ⟨p0, p1, p2⟩ := hS; go_simp; with_reducible rfl) (fun c a w h => h) ?_; simp only [Act.put, List.setIfInBounds_toArray, List.set_cons_succ, List.set_cons_zero])
      refine tree_end ?_
      refine hK' _ _ (Met.intro (hJ _ _ ?_))
      (repeat apply Exists.intro)
      refine ⟨?rel, rfl⟩
      case rel => exact ⟨_, rfl, Lib.hid (by unfold startG; rw [← HQ.out]; exact hbg)⟩
    obtain ⟨m, rfl, HBN⟩ := hcut
    have hm0 : (0 : Nat) < fs.length := by have := HCO.out.1; omega
    have hps : (([] : List Int).length : Int) = fs[0].ps := by
      have h := HCO.out.2.1
      rw [List.getD_eq_getElem?_getD, List.getElem?_eq_getElem hm0] at h
      exact h.symm
    have hgok : GOk (startG i0 i1 fuel quota) := by
      have h := clampf_in fuel
      have h2 : clampf fuel ≤ 1048576 := by have := HFU.out; unfold clampf; repeat' split <;> omega
      exact ⟨Int.le_refl _, h.1, h2, Int.le_refl _, Int.le_refl _, Int.le_refl _⟩
    have CALL := Lib.hid (run_all (W0 := w) (fs := fs) (V := .slice A k c) ⟨HCO.out, HFS.out, HS.out, HL.out⟩ m _ wc _ 0 (startG i0 i1 fuel quota) 0 [] (.slice none 0 0) HBN.out.mm hgok (Nat.lt_succ_self _) hm0 (by omega) ⟨none, 0, rfl, Nat.le_refl _, by simp [maxLen], fun h => by cases h⟩ (fun k h => by cases h) hps)
    clear hm0 hps hgok hq1 hq2
    go_wp2_with fail
    refine CALL.out.mono ?_; rintro e w3 ⟨X3, n3, e3, g3, rfl, hm3, hc3, hx3, hO, _⟩
    have hT3 := hc3.heap (HBN.out.chg.heap HYT.out (fun x => x)) (fun h => by have := lt_of_heap HYT.out; omega)
    obtain ⟨mt, hp, Sh, J0, J1, P, KV, CV, hst, hin⟩ := hm3.mi
    obtain ⟨_, AP, cP, rfl⟩ := ownsRow_slice hst.pr
    obtain ⟨_, AK, cK, rfl⟩ := ownsRow_slice hst.ke
    obtain ⟨_, AC, cC, rfl⟩ := ownsRow_slice hst.cl
    have HGE : Hid (∀ k, X3 k → T < k ∧ w.heap.size ≤ k) := Lib.hid (fun k hk => by
      have h1 := lt_of_heap HYT.out
      have h2 := HB1.out.size
      rcases hx3 k hk with h | h
      · exact ⟨by omega, by omega⟩
      · have := HBN.out.chg.size
        exact ⟨by omega, by omega⟩)
    have hC3 : Chg (fun k => w.heap.size ≤ k) w1 w3 := (HBN.out.chg.mono (fun _ _ x => x.elim)).then (hc3.mono (fun k _ h => by have := HB1.out.size; omega))
    obtain ⟨w4, hw4⟩ : ∃ z, z = (w3.setCell ⟨m, 11, none⟩ (.int .i64 n3)).setCell ⟨m, 12, none⟩ (.int .i64 e3) := ⟨_, rfl⟩
    have box4 := heap_set (heap_set hst.box 11 (.int .i64 n3)) 12 (.int .i64 e3)
    have hc4 : Chg (fun k => k = m) w3 w4 := by rw [hw4]; exact (Chg.set_cell (w := w3) ⟨m, 11, none⟩ (.int .i64 n3)).then (Chg.set_cell ⟨m, 12, none⟩ (.int .i64 e3))
    rw [← hw4] at box4
    have f1 := frozen_of_block hst.box 11
    have f2 := frozen_of_block hst.box 12
    have f3 := frozen_of_block box4 10
    have z0 := cell_of_block box4 0
    have g1 := cell_of_block hst.box 11
    have g2 := cell_of_block hst.box 12
    have g4 := cell_of_block box4 10
    have CN := Lib.hid (now_any (hst.met.kept hc4 (fun e => hst.mm e.symm)))
    obtain ⟨w5, hw5⟩ : ∃ z, z = w4.setCell ⟨m, 10, none⟩ (.int .i64 g3.now) := ⟨_, rfl⟩
    have box5 := heap_set box4 10 (.int .i64 g3.now)
    have hc5 : Chg (fun k => k = m) w4 w5 := by rw [hw5]; exact Chg.set_cell (w := w4) ⟨m, 10, none⟩ (.int .i64 g3.now)
    rw [← hw5] at box5
    have hT5 := (hc4.then hc5).heap hT3 (fun e => by have := (HGE.out m hin.m).1; omega)
    have q0 := cell_of_block box5 7
    have q1 := cell_of_block box5 8
    have q2 := cell_of_block box5 9
    have q3 := cell_of_block box5 10
    have q4 := cell_of_block box5 11
    have q5 := cell_of_block box5 12
    simp at z0 g1 g2 g4 q0 q1 q2 q3 q4 q5
    have HO := Lib.hid hO
    have HST := Lib.hid hst
    have HIN := Lib.hid hin
    have HW := Lib.hid (And.intro hw4 hw5)
    have HC45 := Lib.hid (And.intro hC3 (hc4.then hc5))
    have HT5 := Lib.hid hT5
    clear hm3 hc3 hx3 hO hT3 hst hin hw4 hw5 hc4 hc5 hC3 box4 box5 hT5 CALL
    go_upto_region 5 with fail
    rw [← HW.out.1]
    go_wp2_with fail
    refine CN.out.mono ?_; rintro e w6 ⟨rfl, rfl⟩
    go_upto_region 6 with fail
    rw [← HW.out.2]
    clear z0 f1 f2 f3 g1 g2 g4 CN
    have t0 := frozen_of_block HT5.out 0
    have t1 := frozen_of_block HT5.out 1
    have t2 := frozen_of_block HT5.out 2
    have t3 := frozen_of_block HT5.out 3
    have t4 := frozen_of_block HT5.out 4
    have t5 := frozen_of_block HT5.out 5
    have u0 := cell_of_block HT5.out 0
    have u1 := cell_of_block HT5.out 1
    have u2 := cell_of_block HT5.out 2
    have u3 := cell_of_block HT5.out 3
    have u4 := cell_of_block HT5.out 4
    have u5 := cell_of_block HT5.out 5
    simp at u0 u1 u2 u3 u4 u5
    go_wp2_with fail
    obtain ⟨wf, hwf⟩ : ∃ z, z = ((((((w5.setCell ⟨T, 0, none⟩ (Value.slice AP g3.pr.length cP)).setCell ⟨T, 1, none⟩ (Value.slice AK g3.ke.length cK)).setCell ⟨T, 2, none⟩ (Value.slice AC g3.cl.length cC)).setCell ⟨T, 3, none⟩ (Value.int .i64 g3.now)).setCell ⟨T, 4, none⟩ (Value.int .i64 n3)).setCell ⟨T, 5, none⟩ (Value.int .i64 e3)) := ⟨_, rfl⟩
    have boxf := (heap_set (heap_set (heap_set (heap_set (heap_set (heap_set HT5.out 0 (Value.slice AP g3.pr.length cP)) 1 (Value.slice AK g3.ke.length cK)) 2 (Value.slice AC g3.cl.length cC)) 3 (Value.int .i64 g3.now)) 4 (Value.int .i64 n3)) 5 (Value.int .i64 e3))
    rw [← hwf] at boxf
    have hcf : Chg (fun k => k = T) w5 wf := by rw [hwf]; exact ((((((Chg.refl _ _).then (Chg.set_cell ⟨T, 0, none⟩ _)).then (Chg.set_cell ⟨T, 1, none⟩ _)).then (Chg.set_cell ⟨T, 2, none⟩ _)).then (Chg.set_cell ⟨T, 3, none⟩ _)).then (Chg.set_cell ⟨T, 4, none⟩ _)).then (Chg.set_cell ⟨T, 5, none⟩ _)
    have v0 := cell_of_block boxf 0
    have v1 := cell_of_block boxf 1
    have v2 := cell_of_block boxf 2
    have v3 := cell_of_block boxf 3
    have v4 := cell_of_block boxf 4
    have v5 := cell_of_block boxf 5
    simp at v0 v1 v2 v3 v4 v5
    rw [← hwf]
    refine bodyPost_ret (by simp [results, Tryd.results12, go_sem, v0, v1, v2, v3, v4, v5]; try rfl) rfl ?_
    have hrow := fun (t : TypeId) (Vx : Value) (l : List Int) (h : w3.ownsRow 0 t 1 Vx l.length (nums l)) (hm : Vx.ownBlock ≠ some m) (hX : ∀ k, Vx.ownBlock = some k → X3 k) => (NumSrc.of_row h).keptX (HC45.out.2.mono (T := fun k => k = m ∨ k = T) (fun k _ e => .inl e) |>.then (hcf.mono (fun k _ e => .inr e))) (fun k hk e => by
      rcases e with e | e
      · exact hm (by rw [hk, e])
      · have := (HGE.out k (hX k hk)).1; omega)
    have hTl := HBX.out.2.2.2
    have hfin : Chg (fun k => w.heap.size ≤ k) w1 wf := (HC45.out.1.then (HC45.out.2.mono (fun k _ e => by have e : k = m := e; rw [e]; exact (HGE.out m HIN.out.m).2))).then (hcf.mono (fun k _ e => by have e : k = T := e; rw [e]; exact hTl))
    refine ⟨_, ⟨g3.pr, g3.ke, g3.cl, g3.now, n3, e3⟩, rfl, ⟨_, _, _, rfl, hrow _ _ _ HST.out.pr HST.out.pm.1 HIN.out.p, hrow _ _ _ HST.out.ke HST.out.km.1 HIN.out.k, hrow _ _ _ HST.out.cl HST.out.cm.1 HIN.out.c⟩, .inr ⟨HCO.out, g3, ?_, rfl, rfl, rfl, rfl⟩, HB1.out.trans (hfin.below (B := w.heap.size) (fun _ h => h) HB1.out.size), ⟨_, _, _, _, _, _, rfl, fun V hV k hk => ?_⟩⟩
    rotate_left
    · have hsz : w3.heap.size ≤ wf.heap.size := Nat.le_trans HC45.out.2.size hcf.size
      simp only [List.mem_cons, List.not_mem_nil, or_false] at hV
      rcases hV with rfl | rfl | rfl
      · exact ⟨(HGE.out k (HIN.out.p k hk)).2, Nat.lt_of_lt_of_le (ownsRow_lt HST.out.pr k hk) hsz⟩
      · exact ⟨(HGE.out k (HIN.out.k k hk)).2, Nat.lt_of_lt_of_le (ownsRow_lt HST.out.ke k hk) hsz⟩
      · exact ⟨(HGE.out k (HIN.out.c k hk)).2, Nat.lt_of_lt_of_le (ownsRow_lt HST.out.cl k hk) hsz⟩
    rcases HO.out with ⟨h, _⟩ | ⟨_, h⟩
    · omega
    · exact h
  · obtain rfl : Z = 6 := by rw [HZ.out]; exact codev_no hco
    have HCO := Lib.hid hco
    have HYT := Lib.hid yT
    have t0 := frozen_of_block yT 0
    have t1 := frozen_of_block yT 1
    have t2 := frozen_of_block yT 2
    have t3 := frozen_of_block yT 3
    have t4 := frozen_of_block yT 4
    have t5 := frozen_of_block yT 5
    have u0 := cell_of_block yT 0
    have u1 := cell_of_block yT 1
    have u2 := cell_of_block yT 2
    have u3 := cell_of_block yT 3
    have u4 := cell_of_block yT 4
    have u5 := cell_of_block yT 5
    simp at u0 u1 u2 u3 u4 u5
    clear hco hb1 hc1 y5 y6 yT
    go_wp2_with fail
    obtain ⟨wf, hwf⟩ : ∃ z, z = ((((((w1.setCell ⟨T, 0, none⟩ (Value.slice none 0 0)).setCell ⟨T, 1, none⟩ (Value.slice none 0 0)).setCell ⟨T, 2, none⟩ (Value.slice none 0 0)).setCell ⟨T, 3, none⟩ (Value.int .i64 0)).setCell ⟨T, 4, none⟩ (Value.int .i64 0)).setCell ⟨T, 5, none⟩ (Value.int .i64 6)) := ⟨_, rfl⟩
    have boxf := (heap_set (heap_set (heap_set (heap_set (heap_set (heap_set HYT.out 0 (Value.slice none 0 0)) 1 (Value.slice none 0 0)) 2 (Value.slice none 0 0)) 3 (Value.int .i64 0)) 4 (Value.int .i64 0)) 5 (Value.int .i64 6))
    rw [← hwf] at boxf
    have hcf : Chg (fun k => k = T) w1 wf := by rw [hwf]; exact ((((((Chg.refl _ _).then (Chg.set_cell ⟨T, 0, none⟩ _)).then (Chg.set_cell ⟨T, 1, none⟩ _)).then (Chg.set_cell ⟨T, 2, none⟩ _)).then (Chg.set_cell ⟨T, 3, none⟩ _)).then (Chg.set_cell ⟨T, 4, none⟩ _)).then (Chg.set_cell ⟨T, 5, none⟩ _)
    have v0 := cell_of_block boxf 0
    have v1 := cell_of_block boxf 1
    have v2 := cell_of_block boxf 2
    have v3 := cell_of_block boxf 3
    have v4 := cell_of_block boxf 4
    have v5 := cell_of_block boxf 5
    simp at v0 v1 v2 v3 v4 v5
    rw [← hwf]
    refine bodyPost_ret (by simp [results, Tryd.results12, go_sem, v0, v1, v2, v3, v4, v5]; try rfl) rfl ?_
    have hTl := HBX.out.2.2.2
    have hn : ∀ w' : World, NumSrc w' (.slice none 0 0) [] := fun w' => ⟨none, 0, rfl, Nat.le_refl _, by simp [maxLen], fun h => by cases h⟩
    exact ⟨_, ⟨[], [], [], 0, 0, 6⟩, rfl, ⟨_, _, _, rfl, hn _, hn _, hn _⟩, .inl ⟨HCO.out, rfl⟩, HB1.out.trans (hcf.below (B := w.heap.size) (fun k h => by have h : k = T := h; rw [h]; exact hTl) HB1.out.size), ⟨_, _, _, _, _, _, rfl, fun V hV k hk => by simp only [List.mem_cons, List.not_mem_nil, or_false, or_self] at hV; subst hV; cases hk⟩⟩
end Go.Proofs.YtdpimkbdieafgaaDoor
