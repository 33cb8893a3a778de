/- LabelTells: the walk of the law. -/
import Derived.Test.YtnpmgnfohaeonaaLabShown
import Derived.Test.YtnpmgnfohaeonaaLabRef4
import Derived.Test.YtnpmgnfohaeonaaLabRdP
namespace Go.Proofs.Ytnpmgnfohaeonaa
set_option linter.unusedVariables false
set_option linter.unusedSimpArgs false
open Go.RowKit

set_option maxHeartbeats 16000000 in
set_option maxRecDepth 100000 in
theorem labelTells_walk (tp : ProgT) (cp : List Value) (te : ExprT) (ce : List Value) (w : World) (hp : rdProg.K w tp cp) (he : IsExpr w (Lt w) te ce) :
    Calls Try.prog 3 #[.agg cp.toArray, .agg ce.toArray] w fun e w' => e = .returned (.bool true) ∧ Below w.heap.size w w' := by
  suffices hs : ∀ w0, w0 = w → Calls Try.prog 3 #[.agg cp.toArray, .agg ce.toArray] w fun e w' => e = .returned (.bool true) ∧ Below w0.heap.size w0 w' from hs w rfl
  intro w0 hw0
  obtain ⟨A, c, B, cb, rfl, hF, hM⟩ := hp
  obtain ⟨o1, n1, s1, A1, k1, c1, rfl⟩ : ∃ o1 n1 s1 A1 k1 c1, ce = [.int .i64 o1, .int .i64 n1, .string s1, .slice A1 k1 c1] := by cases he; exact ⟨_, _, _, _, _, _, rfl⟩
  obtain ⟨cv, hcv⟩ : ∃ cv, checkv tp = cv := ⟨_, rfl⟩
  obtain ⟨sv, hsv⟩ : ∃ sv, secE te = sv := ⟨_, rfl⟩
  have C1 : Hid (∀ wx, Below w.heap.size w wx → Calls Try.prog 11 #[.agg #[.slice A tp.funcs.length c, .slice B tp.main.length cb]] wx fun e w' => e = .returned (.int .i64 cv) ∧ Below wx.heap.size wx w') := Lib.hid (fun wx hb => by
    rw [← hcv]
    exact check_any tp (hF.kept (Below.chg hb) (fun _ _ x => x)) (hM.keep hb) (fun k hk => Nat.lt_of_lt_of_le hk hb.size))
  have C2 : Hid (∀ wx, Below w.heap.size w wx → Calls Try.prog 12 #[.agg #[.slice A tp.funcs.length c, .slice B tp.main.length cb]] wx fun e w' => e = .returned (.int .i64 cv) ∧ Below wx.heap.size wx w') := Lib.hid (fun wx hb => by
    rw [← hcv]
    exact rcheck_any tp (hF.kept (Below.chg hb) (fun _ _ x => x)) (hM.keep hb))
  have C3 : Hid (∀ wx, Below w.heap.size w wx → Calls Try.prog 13 #[.agg #[.int .i64 o1, .int .i64 n1, .string s1, .slice A1 k1 c1]] wx fun e w' => e = .returned (.bool sv) ∧ Below wx.heap.size wx w') := Lib.hid (fun wx hb => by
    rw [← hsv]
    exact of_tree (he.keep hb))
  have C4 : Hid (∀ wx, Below w.heap.size w wx → Calls Try.prog 14 #[.agg #[.int .i64 o1, .int .i64 n1, .string s1, .slice A1 k1 c1]] wx fun e w' => e = .returned (.bool sv) ∧ Below wx.heap.size wx w') := Lib.hid (fun wx hb => by
    rw [← hsv]
    exact rof_tree (he.keep hb))
  generalize tp.funcs.length = nf at *
  generalize tp.main.length = nm at *
  have HW := Lib.hid hw0
  clear hF hM he hcv hsv hw0
  show Calls Try.prog 3 #[.agg #[.slice A nf c, .slice B nm cb], .agg #[.int .i64 o1, .int .i64 n1, .string s1, .slice A1 k1 c1]] w _
  go_enter Try.func3, Try.ntmps3
  go_wp2_with fail
  refine (shown_any _).mono ?_; rintro e w1 ⟨rfl, hb1⟩
  have hkA : w1.heap[w.heap.size]? = some (.cells #[.slice A nf c, .slice B nm cb] 25 (0, 0)) := (Below.chg hb1).heap (heap_old (heap_new _ _)) (fun x => x)
  have hkB : w1.heap[w.heap.size + 1]? = some (.cells #[.int .i64 o1, .int .i64 n1, .string s1, .slice A1 k1 c1] 28 (0, 0)) := (Below.chg hb1).heap (heap_new' (by simp)) (fun x => x)
  have HB1 : Hid (Below w.heap.size w w1) := Lib.hid ((((Below.refl _ w).alloc (Nat.le_refl _) _).alloc (by simp) _).trans (hb1.mono (by simp; omega)))
  have SC : ∀ wx : World, (wx.heap[w.heap.size]? = some (.cells #[.slice A nf c, .slice B nm cb] 25 (0, 0)) ∧ wx.heap[w.heap.size + 1]? = some (.cells #[.int .i64 o1, .int .i64 n1, .string s1, .slice A1 k1 c1] 28 (0, 0))) → wx.cell? ⟨w.heap.size, 0, none⟩ = some (.slice A nf c) ∧ wx.cell? ⟨w.heap.size, 1, none⟩ = some (.slice B nm cb) ∧ wx.cell? ⟨w.heap.size + 1, 0, none⟩ = some (.int .i64 o1) ∧ wx.cell? ⟨w.heap.size + 1, 1, none⟩ = some (.int .i64 n1) ∧ wx.cell? ⟨w.heap.size + 1, 2, none⟩ = some (.string s1) ∧ wx.cell? ⟨w.heap.size + 1, 3, none⟩ = some (.slice A1 k1 c1) := fun wx h => by
    obtain ⟨h1, h2⟩ := h
    exact ⟨cell_of_block h1 0, cell_of_block h1 1, cell_of_block h2 0, cell_of_block h2 1, cell_of_block h2 2, cell_of_block h2 3⟩
  have SC := Lib.hid SC
  have SK : Hid (∀ (wx wy : World), Below wx.heap.size wx wy → (wx.heap[w.heap.size]? = some (.cells #[.slice A nf c, .slice B nm cb] 25 (0, 0)) ∧ wx.heap[w.heap.size + 1]? = some (.cells #[.int .i64 o1, .int .i64 n1, .string s1, .slice A1 k1 c1] 28 (0, 0))) → (wy.heap[w.heap.size]? = some (.cells #[.slice A nf c, .slice B nm cb] 25 (0, 0)) ∧ wy.heap[w.heap.size + 1]? = some (.cells #[.int .i64 o1, .int .i64 n1, .string s1, .slice A1 k1 c1] 28 (0, 0)))) := Lib.hid (fun wx wy hb h => ⟨(Below.chg hb).heap h.1 (fun x => x), (Below.chg hb).heap h.2 (fun x => x)⟩)
  obtain ⟨wd, hwd⟩ : ∃ wd, wd = w1.drew := ⟨_, rfl⟩
  have hbd : Below w1.heap.size w1 wd := by rw [hwd]; exact (Below.refl _ _).drew
  have hS0 := SK.out w1 wd hbd ⟨hkA, hkB⟩
  have hb2 := bel_trans HB1.out hbd
  clear hb1 hkA hkB HB1 hbd
  go_upto_region 2 with fail
  refine wp_region_ord (S := fun wx => wx.heap[w.heap.size]? = some (.cells #[.slice A nf c, .slice B nm cb] 25 (0, 0)) ∧ wx.heap[w.heap.size + 1]? = some (.cells #[.int .i64 o1, .int .i64 n1, .string s1, .slice A1 k1 c1] 28 (0, 0))) (N := fun i => true) (by kernel_rfl) [(0, true), (1, true), (2, true), (4, true), (3, false), (5, false), (6, true), (7, true), (8, true), (9, true), (11, true), (10, false), (12, false), (13, true), (14, true), (15, true)] (by kernel_rfl) ?_
  rw [← hwd]
  clear hwd
  iterate 4 (refine ord_look rfl hS0 rfl (by intro w hS; obtain ⟨h1, h2, h3, h4, h5, h6⟩ := SC.out w hS; go_simp; with_reducible rfl) (fun c a w h => h) ?_; try simp only [Act.put, List.setIfInBounds_toArray, List.set_cons_succ, List.set_cons_zero])
  refine ord_act rfl rfl (fun K hK => ?_)
  refine wp_call 11 _ _ Try.func11 rfl (by kernel_rfl) _ _ rfl #[.agg #[.slice A nf c, .slice B nm cb]] (by simp [Act.eval]) (R := fun v w1 => v = .int .i64 cv ∧ Below wd.heap.size wd w1) (calls_ret (C1.out _ hb2) (by rintro e w1 ⟨rfl, h⟩; exact ⟨_, rfl, rfl, h⟩)) ?_
  rintro v w2 ⟨rfl, hc2⟩
  have hS2 := SK.out wd w2 hc2 hS0
  have hb3 := bel_trans hb2 hc2
  refine hK _ _ ⟨fun _ => hS2, ?_⟩
  clear hK K hS0 hb2 hc2
  try simp only [Act.put, List.setIfInBounds_toArray, List.set_cons_succ, List.set_cons_zero]
  refine ord_act rfl rfl (fun K hK => ?_)
  refine wp_call 12 _ _ Try.func12 rfl (by kernel_rfl) _ _ rfl #[.agg #[.slice A nf c, .slice B nm cb]] (by simp [Act.eval]) (R := fun v w1 => v = .int .i64 cv ∧ Below w2.heap.size w2 w1) (calls_ret (C2.out _ hb3) (by rintro e w1 ⟨rfl, h⟩; exact ⟨_, rfl, rfl, h⟩)) ?_
  rintro v w3 ⟨rfl, hc3⟩
  have hS3 := SK.out w2 w3 hc3 hS2
  have hb4 := bel_trans hb3 hc3
  refine hK _ _ ⟨fun _ => hS3, ?_⟩
  clear hK K hS2 hb3 hc3
  try simp only [Act.put, List.setIfInBounds_toArray, List.set_cons_succ, List.set_cons_zero]
  iterate 5 (refine ord_look rfl hS3 rfl (by intro w hS; obtain ⟨h1, h2, h3, h4, h5, h6⟩ := SC.out w hS; go_simp; with_reducible rfl) (fun c a w h => h) ?_; try simp only [Act.put, List.setIfInBounds_toArray, List.set_cons_succ, List.set_cons_zero])
  refine ord_act rfl rfl (fun K hK => ?_)
  refine wp_call 13 _ _ Try.func13 rfl (by kernel_rfl) _ _ rfl #[.agg #[.int .i64 o1, .int .i64 n1, .string s1, .slice A1 k1 c1]] (by simp [Act.eval]) (R := fun v w1 => v = .bool sv ∧ Below w3.heap.size w3 w1) (calls_ret (C3.out _ hb4) (by rintro e w1 ⟨rfl, h⟩; exact ⟨_, rfl, rfl, h⟩)) ?_
  rintro v w4 ⟨rfl, hc4⟩
  have hS4 := SK.out w3 w4 hc4 hS3
  have hb5 := bel_trans hb4 hc4
  refine hK _ _ ⟨fun _ => hS4, ?_⟩
  clear hK K hS3 hb4 hc4
  try simp only [Act.put, List.setIfInBounds_toArray, List.set_cons_succ, List.set_cons_zero]
  refine ord_act rfl rfl (fun K hK => ?_)
  refine wp_call 14 _ _ Try.func14 rfl (by kernel_rfl) _ _ rfl #[.agg #[.int .i64 o1, .int .i64 n1, .string s1, .slice A1 k1 c1]] (by simp [Act.eval]) (R := fun v w1 => v = .bool sv ∧ Below w4.heap.size w4 w1) (calls_ret (C4.out _ hb5) (by rintro e w1 ⟨rfl, h⟩; exact ⟨_, rfl, rfl, h⟩)) ?_
  rintro v w5 ⟨rfl, hc5⟩
  have hS5 := SK.out w4 w5 hc5 hS4
  have hb6 := bel_trans hb5 hc5
  refine hK _ _ ⟨fun _ => hS5, ?_⟩
  clear hK K hS4 hb5 hc5
  try simp only [Act.put, List.setIfInBounds_toArray, List.set_cons_succ, List.set_cons_zero]
  iterate 3 (refine ord_look rfl hS5 rfl (by intro w hS; obtain ⟨h1, h2, h3, h4, h5, h6⟩ := SC.out w hS; go_simp; with_reducible rfl) (fun c a w h => h) ?_; try simp only [Act.put, List.setIfInBounds_toArray, List.set_cons_succ, List.set_cons_zero])
  refine ord_end ?_
  have HFIN : Hid (Below w0.heap.size w0 w5) := Lib.hid (by rw [HW.out]; exact hb6)
  clear hS5 hb6 SC SK C1 C2 C3 C4
  go_wp2_with fail
  go_ret
  first
    | exact ⟨rfl, HFIN.out⟩
    | exact ⟨by simp, HFIN.out⟩
end Go.Proofs.Ytnpmgnfohaeonaa
