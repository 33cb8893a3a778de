/- label: shown: the walk. -/
import Derived.Test.YtnpmgnfohaeonaaLabSh
import Derived.Deep.CutRange
import Derived.Deep.CutBlock
namespace Go.Proofs.Ytnpmgnfohaeonaa
set_option linter.unusedVariables false
set_option linter.unusedSimpArgs false
open Go.RowKit

set_option maxHeartbeats 16000000 in
set_option maxRecDepth 100000 in
theorem shown_any (w : World) : Calls Try.prog 10 #[] w fun e w' => e = .returned (.bool true) ∧ Below w.heap.size w w' := by
  suffices hs : ∀ w0, w0 = w → Calls Try.prog 10 #[] w fun e w' => e = .returned (.bool true) ∧ Below w0.heap.size w0 w' from hs w rfl
  intro w0 hw0
  have HW := Lib.hid hw0
  clear hw0
  go_enter Try.func10, Try.ntmps10
  go_wp2_with fail
  refine (name_any _ _).mono ?_; rintro e w1 ⟨rfl, hb1⟩
  have hP1 : w1.heap[w.heap.size]? = some (.cells #[.string ⟨#[97]⟩, .string ⟨#[66]⟩] 9 (0, 0)) := (Below.chg hb1).heap (heap_new _ _) (fun x => x)
  have HB1 : Hid (Below w0.heap.size w0 w1) := Lib.hid (by rw [HW.out]; exact ((Below.refl _ w).alloc (Nat.le_refl _) _).trans (hb1.mono (by simp)))
  have HP1 := Lib.hid hP1
  clear hb1 hP1
  obtain ⟨P, hP⟩ : ∃ P, P = w.heap.size := ⟨_, rfl⟩
  rw [← hP] at HP1 ⊢
  clear hP
  obtain ⟨E1, hE1⟩ : ∃ E1, E1 = w1.heap.size := ⟨_, rfl⟩
  go_wp2_with fail
  rw [← hE1]
  obtain ⟨wA, hwA⟩ : ∃ wA, wA = ((w1.alloc (.cells #[.int .i64 2, .int .i64 0, .string ⟨#[97]⟩, .slice none 0 0] 28)).alloc (.cells #[.int .i64 9, .string ⟨#[]⟩, .int .i64 0, .slice (some ⟨E1, 0, none⟩) 1 1, .slice none 0 0, .slice none 0 0] 42)).alloc (.cells #[.string ⟨#[102]⟩, .slice (some ⟨P, 0, none⟩) 2 2, .slice (some ⟨E1 + 1, 0, none⟩) 1 1] 38) := ⟨_, rfl⟩
  have hcA : Chg (fun _ => False) w1 wA := by rw [hwA]; exact (((Chg.refl _ _).alloc _).alloc _).alloc _
  have HFA : Hid (ShF wA P E1 (E1 + 1) ⟨#[97]⟩ (E1 + 1 + 1)) := Lib.hid (by
    refine ⟨hcA.heap HP1.out (fun x => x), ?_, ?_, ?_⟩
    · rw [hwA]; exact heap_old (heap_old (heap_new' hE1.symm))
    · rw [hwA]; exact heap_old (heap_new' (by simp [hE1]))
    · rw [hwA]; exact heap_new' (by simp [hE1]))
  have HBA : Hid (Below w0.heap.size w0 wA) := Lib.hid (bel_trans HB1.out hcA.to_below)
  have HFL : Hid (w0.heap.size ≤ E1 + 1 + 1) := Lib.hid (by have := HB1.out.size; omega)
  rw [← hwA]
  clear hwA hcA HB1 HP1 hE1
  refine (name_any _ _).mono ?_; rintro e w2 ⟨rfl, hb2⟩
  go_wp2_with fail
  refine (name_any _ _).mono ?_; rintro e w3 ⟨rfl, hb3⟩
  have HB3 : Hid (Below wA.heap.size wA w3) := Lib.hid (bel_trans hb2 hb3)
  clear hb2 hb3
  obtain ⟨C1, hC1⟩ : ∃ C1, C1 = w3.heap.size := ⟨_, rfl⟩
  go_wp2_with fail
  rw [← hC1]
  obtain ⟨wB, hwB⟩ : ∃ wB, wB = (w3.alloc (.cells #[.int .i64 2, .int .i64 0, .string ⟨#[88]⟩, .slice none 0 0, .int .i64 2, .int .i64 0, .string ⟨#[89]⟩, .slice none 0 0] 28)).alloc (.cells #[.int .i64 5, .int .i64 0, .string ⟨#[102]⟩, .slice (some ⟨C1, 0, none⟩) 2 2] 28) := ⟨_, rfl⟩
  rw [← hwB]
  have hcB : Chg (fun _ => False) wA wB := by rw [hwB]; exact ((Below.chg HB3.out).alloc _).alloc _
  have HCB : Hid (ShC wB C1 ⟨#[88]⟩ ⟨#[89]⟩ (C1 + 1)) := Lib.hid (by
    refine ⟨?_, ?_⟩
    · rw [hwB]; exact heap_old (heap_new' hC1.symm)
    · rw [hwB]; exact heap_new' (by simp [hC1]))
  have HFB := Lib.hid (HFA.out.keep hcB)
  have HBB : Hid (Below w0.heap.size w0 wB) := Lib.hid (bel_trans HBA.out hcB.to_below)
  have HTL : Hid (w0.heap.size ≤ C1 + 1) := Lib.hid (by have := HBA.out.size; have := HB3.out.size; omega)
  clear hwB hcB hC1 HB3 HFA HBA
  obtain ⟨S1, hS1⟩ : ∃ S1, S1 = E1 + 1 := ⟨_, rfl⟩
  obtain ⟨F1, hF1⟩ : ∃ F1, F1 = E1 + 1 + 1 := ⟨_, rfl⟩
  obtain ⟨T1, hT1⟩ : ∃ T1, T1 = C1 + 1 := ⟨_, rfl⟩
  rw [← hF1] at HFB HFL ⊢
  rw [← hS1] at HFB ⊢
  rw [← hT1] at HCB HTL ⊢
  clear hS1 hF1 hT1
  -- a
  refine (name_any _ _).mono ?_; rintro e w4 ⟨rfl, hb4⟩
  go_wp2_with fail
  refine (sets_any _ _ _ _ _ _ _ _).mono ?_; rintro e w5 ⟨b5, rfl, hlt5, hr5, hb5⟩
  have HR5 := Lib.hid hr5
  have HB5 : Hid (Below wB.heap.size wB w5) := Lib.hid (bel_trans hb4 hb5)
  clear hb4 hb5 hr5 hlt5
  obtain ⟨C5, hC5⟩ : ∃ C5, C5 = w5.heap.size := ⟨_, rfl⟩
  go_wp2_with fail
  rw [← hC5]
  obtain ⟨wC, hwC⟩ : ∃ wC, wC = w5.alloc (.cells #[.int .i64 1, .string ⟨#[120]⟩, .int .i64 0, .slice (some ⟨b5, 0, none⟩) 1 1, .slice none 0 0, .slice none 0 0] 42) := ⟨_, rfl⟩
  rw [← hwC]
  have CA : Calls Try.prog 11 #[.agg #[.slice none 0 0, .slice (some ⟨C5, 0, none⟩) 1 1]] wC fun e w' => e = .returned (.int .i64 5) ∧ Below wC.heap.size wC w' := by
    have h := check_any (w := wC) (X := Lt wC) (p := ⟨[], [setT ⟨#[120]⟩ (varT ⟨#[89]⟩)]⟩) (funcs_nil _ _) (set_at (by rw [hwC]; exact heap_new' hC5.symm) (by rw [hwC]; exact heap_old HR5.out) (small1 _) (isExpr_var _ _ _ (small1 _))) (fun _ h => h)
    rw [v1] at h
    exact h
  have hcC : Chg (fun _ => False) wB wC := by rw [hwC]; exact (Below.chg HB5.out).alloc _
  have HCC := Lib.hid (And.intro hcC CA)
  clear hwC hcC CA HR5 HB5 hC5
  refine HCC.out.2.mono ?_; rintro e w6 ⟨rfl, hb6⟩
  have hc6 : Chg (fun _ => False) wB w6 := HCC.out.1.then (Below.chg hb6)
  have HF6 := Lib.hid (HFB.out.keep hc6)
  have HC6 := Lib.hid (HCB.out.keep hc6)
  have HB6 : Hid (Below w0.heap.size w0 w6) := Lib.hid (bel_trans HBB.out hc6.to_below)
  clear HFB HCB HBB HCC hc6 hb6
  go_wp2_with fail
  -- b
  refine (name_any _ _).mono ?_; rintro e w7 ⟨rfl, hb7⟩
  go_wp2_with fail
  refine (sets_any _ _ _ _ _ _ _ _).mono ?_; rintro e w8 ⟨b8, rfl, _, hr8, hb8⟩
  have HB8 : Hid (Below w6.heap.size w6 w8) := Lib.hid (bel_trans hb7 hb8)
  have HR8 := Lib.hid hr8
  clear hb7 hb8 hr8
  go_wp2_with fail
  refine (name_any _ _).mono ?_; rintro e w9 ⟨rfl, hb9⟩
  go_wp2_with fail
  refine (sets_any _ _ _ _ _ _ _ _).mono ?_; rintro e wa ⟨ba, rfl, _, hra, hba⟩
  have HBa : Hid (Below w8.heap.size w8 wa) := Lib.hid (bel_trans hb9 hba)
  have HRa := Lib.hid hra
  clear hb9 hba hra
  obtain ⟨Ca, hCa⟩ : ∃ Ca, Ca = wa.heap.size := ⟨_, rfl⟩
  go_wp2_with fail
  rw [← hCa]
  obtain ⟨wD, hwD⟩ : ∃ wD, wD = wa.alloc (.cells #[.int .i64 1, .string ⟨#[88]⟩, .int .i64 0, .slice (some ⟨b8, 0, none⟩) 1 1, .slice none 0 0, .slice none 0 0, .int .i64 1, .string ⟨#[120]⟩, .int .i64 0, .slice (some ⟨ba, 0, none⟩) 1 1, .slice none 0 0, .slice none 0 0] 42) := ⟨_, rfl⟩
  rw [← hwD]
  have CB : Calls Try.prog 11 #[.agg #[.slice none 0 0, .slice (some ⟨Ca, 0, none⟩) 2 2]] wD fun e w' => e = .returned (.int .i64 0) ∧ Below wD.heap.size wD w' := by
    have h8 : wD.heap[b8]? = some (.cells #[.int .i64 2, .int .i64 0, .string ⟨#[89]⟩, .slice none 0 0] 28 (0, 0)) := by rw [hwD]; exact heap_old ((Below.chg HBa.out).heap HR8.out (fun x => x))
    have ha : wD.heap[ba]? = some (.cells #[.int .i64 2, .int .i64 0, .string ⟨#[121]⟩, .slice none 0 0] 28 (0, 0)) := by rw [hwD]; exact heap_old HRa.out
    have h := check_any (w := wD) (X := Lt wD) (p := ⟨[], [setT ⟨#[88]⟩ (varT ⟨#[89]⟩), setT ⟨#[120]⟩ (varT ⟨#[121]⟩)]⟩) (funcs_nil _ _) (sets_at (by rw [hwD]; exact heap_new' hCa.symm) h8 ha (small1 _) (small1 _) (small1 _) (small1 _)) (fun _ h => h)
    rw [v2] at h
    exact h
  have hcD : Chg (fun _ => False) w6 wD := by rw [hwD]; exact ((Below.chg HB8.out).then (Below.chg HBa.out)).alloc _
  have HCD := Lib.hid (And.intro hcD CB)
  clear hwD hcD CB HR8 HB8 HRa HBa hCa
  refine HCD.out.2.mono ?_; rintro e wb ⟨rfl, hbb⟩
  have hcb : Chg (fun _ => False) w6 wb := HCD.out.1.then (Below.chg hbb)
  have HFb := Lib.hid (HF6.out.keep hcb)
  have HCb := Lib.hid (HC6.out.keep hcb)
  have HBb : Hid (Below w0.heap.size w0 wb) := Lib.hid (bel_trans HB6.out hcb.to_below)
  clear HF6 HC6 HB6 HCD hcb hbb
  have HFw := HFb
  have HCw := HCb
  have HBw := HBb
  clear HFb HCb HBb
  have SCX : Hid (∀ wx, (ShF wx P E1 S1 ⟨#[97]⟩ F1 ∧ ShC wx C1 ⟨#[88]⟩ ⟨#[89]⟩ T1) → wx.cell? ⟨F1, 0, none⟩ = some (.string ⟨#[102]⟩) ∧ wx.cell? ⟨F1, 1, none⟩ = some (.slice (some ⟨P, 0, none⟩) 2 2) ∧ wx.cell? ⟨F1, 2, none⟩ = some (.slice (some ⟨S1, 0, none⟩) 1 1) ∧ wx.cell? ⟨T1, 0, none⟩ = some (.int .i64 5) ∧ wx.cell? ⟨T1, 1, none⟩ = some (.int .i64 0) ∧ wx.cell? ⟨T1, 2, none⟩ = some (.string ⟨#[102]⟩) ∧ wx.cell? ⟨T1, 3, none⟩ = some (.slice (some ⟨C1, 0, none⟩) 2 2)) := Lib.hid (fun wx h => ⟨cell_of_block h.1.bF 0, cell_of_block h.1.bF 1, cell_of_block h.1.bF 2, cell_of_block h.2.bT 0, cell_of_block h.2.bT 1, cell_of_block h.2.bT 2, cell_of_block h.2.bT 3⟩)
  go_upto_region 5 with fail
  go_cut [5] from 31 to 37 (fun a5 wx => a5 = .int .i64 5 ∧ ShF wx P E1 S1 ⟨#[97]⟩ F1 ∧ ShC wx C1 ⟨#[88]⟩ ⟨#[89]⟩ T1 ∧ Below w0.heap.size w0 wx)
  case first =>
      have hS0 : ShF wb.drew P E1 S1 ⟨#[97]⟩ F1 ∧ ShC wb.drew C1 ⟨#[88]⟩ ⟨#[89]⟩ T1 := ⟨HFw.out.keep (Chg.refl _ _).drew, HCw.out.keep (Chg.refl _ _).drew⟩
      refine wp_region_tree (S := fun w' => ShF w' P E1 S1 ⟨#[97]⟩ F1 ∧ ShC w' C1 ⟨#[88]⟩ ⟨#[89]⟩ T1) (N := fun i => true) (by kernel_rfl) (.look 0 (.look 2 (.fork 1 (.act 3 (.act 4 (.look 5 (.act 6 (.look 7 .done))))) 3 (.fork 1 (.act 4 (.look 5 (.act 6 (.look 7 .done)))) 4 (.act 1 (.look 5 (.act 6 (.look 7 .done)))))))) (by kernel_rfl) ?_
      obtain ⟨wbd, hwbd⟩ : ∃ wbd, wbd = wb.drew := ⟨_, rfl⟩
      have hcbd : Chg (fun _ => False) wb wbd := by rw [hwbd]; exact (Chg.refl _ _).drew
      rw [← hwbd] at hS0 ⊢
      clear hwbd
      refine tree_look rfl hS0 rfl (by intro w hS; obtain ⟨q0, q1, q2, q3, q4, q5, q6⟩ := SCX.out w hS; go_simp; with_reducible rfl) (fun c a w h => h) ?_; try simp only [Act.put, List.setIfInBounds_toArray, List.set_cons_succ, List.set_cons_zero]
      refine tree_look rfl hS0 rfl (by intro w hS; obtain ⟨q0, q1, q2, q3, q4, q5, q6⟩ := SCX.out w hS; go_simp; with_reducible rfl) (fun c a w h => h) ?_; try simp only [Act.put, List.setIfInBounds_toArray, List.set_cons_succ, List.set_cons_zero]
      refine tree_fork rfl rfl rfl rfl (fun K hK => ?_) (fun K hK => ?_)
      · skip
        go_simp
        obtain ⟨wp, hwp⟩ : ∃ wp, wp = wbd.alloc (.cells #[.string ⟨#[102]⟩, .slice (some ⟨P, 0, none⟩) 2 2, .slice (some ⟨S1, 0, none⟩) 1 1] 38) := ⟨_, rfl⟩
        obtain ⟨b1, hb1⟩ : ∃ b1, b1 = wbd.heap.size := ⟨_, rfl⟩
        rw [← hwp, ← hb1]
        have hcwp : Chg (fun _ => False) wbd wp := by rw [hwp]; exact (Chg.refl _ _).alloc _
        have hSwp : ShF wp P E1 S1 ⟨#[97]⟩ F1 ∧ ShC wp C1 ⟨#[88]⟩ ⟨#[89]⟩ T1 := ⟨hS0.1.keep hcwp, hS0.2.keep hcwp⟩
        have hrow1 : wp.heap[b1]? = some (.cells #[.string ⟨#[102]⟩, .slice (some ⟨P, 0, none⟩) 2 2, .slice (some ⟨S1, 0, none⟩) 1 1] 38 (0, 0)) := by rw [hwp]; exact heap_new' hb1.symm
        refine hK _ _ ⟨fun _ => hSwp, ?_⟩
        clear hK K hwp hb1
        try simp only [Act.put, List.setIfInBounds_toArray, List.set_cons_succ, List.set_cons_zero]
        refine tree_act rfl rfl (fun K hK => ?_)
        refine wp_call 20 _ _ Try.func20 rfl (by kernel_rfl) _ _ rfl #[.string ⟨#[120]⟩, .agg #[.int .i64 5, .int .i64 0, .string ⟨#[102]⟩, .slice (some ⟨C1, 0, none⟩) 2 2]] (by simp [Act.eval]) (R := fun v w1 => ∃ b, v = .agg #[.int .i64 1, .string ⟨#[120]⟩, .int .i64 0, .slice (some ⟨b, 0, none⟩) 1 1, .slice none 0 0, .slice none 0 0] ∧ w1.heap[b]? = some (.cells #[.int .i64 5, .int .i64 0, .string ⟨#[102]⟩, .slice (some ⟨C1, 0, none⟩) 2 2] 28 (0, 0)) ∧ Below wp.heap.size wp w1) (calls_ret (sets_any _ _ _ _ _ _ _ _) (by rintro e w1 ⟨b, rfl, _, h1, h2⟩; exact ⟨_, rfl, b, rfl, h1, h2⟩)) ?_
        rintro v wq ⟨bq, rfl, hexp, hbwq⟩
        have hcwq : Chg (fun _ => False) wp wq := Below.chg hbwq
        have hSwq : ShF wq P E1 S1 ⟨#[97]⟩ F1 ∧ ShC wq C1 ⟨#[88]⟩ ⟨#[89]⟩ T1 := ⟨hSwp.1.keep hcwq, hSwp.2.keep hcwq⟩
        refine hK _ _ ⟨fun _ => hSwq, ?_⟩
        clear hK K hbwq
        try simp only [Act.put, List.setIfInBounds_toArray, List.set_cons_succ, List.set_cons_zero]
        replace hrow1 := hcwq.heap hrow1 (fun x => x)
        refine tree_act rfl rfl (fun K hK => ?_)
        go_simp
        obtain ⟨wr, hwr⟩ : ∃ wr, wr = wq.alloc (.cells #[.int .i64 1, .string ⟨#[120]⟩, .int .i64 0, .slice (some ⟨bq, 0, none⟩) 1 1, .slice none 0 0, .slice none 0 0] 42) := ⟨_, rfl⟩
        obtain ⟨b4, hb4⟩ : ∃ b4, b4 = wq.heap.size := ⟨_, rfl⟩
        rw [← hwr, ← hb4]
        have hcwr : Chg (fun _ => False) wq wr := by rw [hwr]; exact (Chg.refl _ _).alloc _
        have hSwr : ShF wr P E1 S1 ⟨#[97]⟩ F1 ∧ ShC wr C1 ⟨#[88]⟩ ⟨#[89]⟩ T1 := ⟨hSwq.1.keep hcwr, hSwq.2.keep hcwr⟩
        have hrow4 : wr.heap[b4]? = some (.cells #[.int .i64 1, .string ⟨#[120]⟩, .int .i64 0, .slice (some ⟨bq, 0, none⟩) 1 1, .slice none 0 0, .slice none 0 0] 42 (0, 0)) := by rw [hwr]; exact heap_new' hb4.symm
        refine hK _ _ ⟨fun _ => hSwr, ?_⟩
        clear hK K hwr hb4
        try simp only [Act.put, List.setIfInBounds_toArray, List.set_cons_succ, List.set_cons_zero]
        replace hrow1 := hcwr.heap hrow1 (fun x => x)
        replace hexp := hcwr.heap hexp (fun x => x)
        refine tree_look rfl hSwr rfl (by intro w hS; obtain ⟨q0, q1, q2, q3, q4, q5, q6⟩ := SCX.out w hS; go_simp; with_reducible rfl) (fun c a w h => h) ?_; try simp only [Act.put, List.setIfInBounds_toArray, List.set_cons_succ, List.set_cons_zero]
        refine tree_act rfl rfl (fun K hK => ?_)
        have CK : Calls Try.prog 11 #[.agg #[.slice (some ⟨b1, 0, none⟩) 1 1, .slice (some ⟨b4, 0, none⟩) 1 1]] wr fun e w' => e = .returned (.int .i64 5) ∧ Below wr.heap.size wr w' := by
          have h := check_any (w := wr) (X := Lt wr) (p := ⟨[shFn ⟨#[97]⟩], [setT ⟨#[120]⟩ (shCall ⟨#[88]⟩ ⟨#[89]⟩)]⟩) (funcs_one (v := ⟨⟨#[102]⟩, some ⟨P, 0, none⟩, 2, 2, some ⟨S1, 0, none⟩, 1, 1⟩) hrow1 (lt_of_heap hrow1) (hSwr.1.isFunc (small1 _))) (set_at hrow4 hexp (small1 _) (hSwr.2.isExpr (small1 _) (small1 _))) (fun _ h => h)
          rw [v3] at h
          exact h
        refine wp_call 11 _ _ Try.func11 rfl (by kernel_rfl) _ _ rfl #[.agg #[.slice (some ⟨b1, 0, none⟩) 1 1, .slice (some ⟨b4, 0, none⟩) 1 1]] (by simp [Act.eval]) (R := fun v w1 => v = .int .i64 5 ∧ Below wr.heap.size wr w1) (calls_ret CK (by rintro e w1 ⟨rfl, h⟩; exact ⟨_, rfl, rfl, h⟩)) ?_
        rintro v wz ⟨rfl, hbz⟩
        have hSz : ShF wz P E1 S1 ⟨#[97]⟩ F1 ∧ ShC wz C1 ⟨#[88]⟩ ⟨#[89]⟩ T1 := ⟨hSwr.1.keep (Below.chg hbz), hSwr.2.keep (Below.chg hbz)⟩
        refine hK _ _ ⟨fun _ => hSz, ?_⟩
        clear hK K CK
        try simp only [Act.put, List.setIfInBounds_toArray, List.set_cons_succ, List.set_cons_zero]
        refine tree_look rfl hSz rfl (by intro w hS; obtain ⟨q0, q1, q2, q3, q4, q5, q6⟩ := SCX.out w hS; go_simp; with_reducible rfl) (fun c a w h => h) ?_; try simp only [Act.put, List.setIfInBounds_toArray, List.set_cons_succ, List.set_cons_zero]
        refine tree_end ?_
        go_wp2_with fail
        go_meet
        case rel => exact ⟨rfl, hSz.1, hSz.2, bel_trans HBw.out (((hcbd.then hcwp).then hcwq |>.then hcwr).then (Below.chg hbz)).to_below⟩
      · skip
        refine wp_call 20 _ _ Try.func20 rfl (by kernel_rfl) _ _ rfl #[.string ⟨#[120]⟩, .agg #[.int .i64 5, .int .i64 0, .string ⟨#[102]⟩, .slice (some ⟨C1, 0, none⟩) 2 2]] (by simp [Act.eval]) (R := fun v w1 => ∃ b, v = .agg #[.int .i64 1, .string ⟨#[120]⟩, .int .i64 0, .slice (some ⟨b, 0, none⟩) 1 1, .slice none 0 0, .slice none 0 0] ∧ w1.heap[b]? = some (.cells #[.int .i64 5, .int .i64 0, .string ⟨#[102]⟩, .slice (some ⟨C1, 0, none⟩) 2 2] 28 (0, 0)) ∧ Below wbd.heap.size wbd w1) (calls_ret (sets_any _ _ _ _ _ _ _ _) (by rintro e w1 ⟨b, rfl, _, h1, h2⟩; exact ⟨_, rfl, b, rfl, h1, h2⟩)) ?_
        rintro v wp ⟨bq, rfl, hexp, hbwp⟩
        have hcwp : Chg (fun _ => False) wbd wp := Below.chg hbwp
        have hSwp : ShF wp P E1 S1 ⟨#[97]⟩ F1 ∧ ShC wp C1 ⟨#[88]⟩ ⟨#[89]⟩ T1 := ⟨hS0.1.keep hcwp, hS0.2.keep hcwp⟩
        refine hK _ _ ⟨fun _ => hSwp, ?_⟩
        clear hK K hbwp
        try simp only [Act.put, List.setIfInBounds_toArray, List.set_cons_succ, List.set_cons_zero]
        refine tree_fork rfl rfl rfl rfl (fun K hK => ?_) (fun K hK => ?_)
        · skip
          go_simp
          obtain ⟨wq, hwq⟩ : ∃ wq, wq = wp.alloc (.cells #[.string ⟨#[102]⟩, .slice (some ⟨P, 0, none⟩) 2 2, .slice (some ⟨S1, 0, none⟩) 1 1] 38) := ⟨_, rfl⟩
          obtain ⟨b1, hb1⟩ : ∃ b1, b1 = wp.heap.size := ⟨_, rfl⟩
          rw [← hwq, ← hb1]
          have hcwq : Chg (fun _ => False) wp wq := by rw [hwq]; exact (Chg.refl _ _).alloc _
          have hSwq : ShF wq P E1 S1 ⟨#[97]⟩ F1 ∧ ShC wq C1 ⟨#[88]⟩ ⟨#[89]⟩ T1 := ⟨hSwp.1.keep hcwq, hSwp.2.keep hcwq⟩
          have hrow1 : wq.heap[b1]? = some (.cells #[.string ⟨#[102]⟩, .slice (some ⟨P, 0, none⟩) 2 2, .slice (some ⟨S1, 0, none⟩) 1 1] 38 (0, 0)) := by rw [hwq]; exact heap_new' hb1.symm
          refine hK _ _ ⟨fun _ => hSwq, ?_⟩
          clear hK K hwq hb1
          try simp only [Act.put, List.setIfInBounds_toArray, List.set_cons_succ, List.set_cons_zero]
          replace hexp := hcwq.heap hexp (fun x => x)
          refine tree_act rfl rfl (fun K hK => ?_)
          go_simp
          obtain ⟨wr, hwr⟩ : ∃ wr, wr = wq.alloc (.cells #[.int .i64 1, .string ⟨#[120]⟩, .int .i64 0, .slice (some ⟨bq, 0, none⟩) 1 1, .slice none 0 0, .slice none 0 0] 42) := ⟨_, rfl⟩
          obtain ⟨b4, hb4⟩ : ∃ b4, b4 = wq.heap.size := ⟨_, rfl⟩
          rw [← hwr, ← hb4]
          have hcwr : Chg (fun _ => False) wq wr := by rw [hwr]; exact (Chg.refl _ _).alloc _
          have hSwr : ShF wr P E1 S1 ⟨#[97]⟩ F1 ∧ ShC wr C1 ⟨#[88]⟩ ⟨#[89]⟩ T1 := ⟨hSwq.1.keep hcwr, hSwq.2.keep hcwr⟩
          have hrow4 : wr.heap[b4]? = some (.cells #[.int .i64 1, .string ⟨#[120]⟩, .int .i64 0, .slice (some ⟨bq, 0, none⟩) 1 1, .slice none 0 0, .slice none 0 0] 42 (0, 0)) := by rw [hwr]; exact heap_new' hb4.symm
          refine hK _ _ ⟨fun _ => hSwr, ?_⟩
          clear hK K hwr hb4
          try simp only [Act.put, List.setIfInBounds_toArray, List.set_cons_succ, List.set_cons_zero]
          replace hrow1 := hcwr.heap hrow1 (fun x => x)
          replace hexp := hcwr.heap hexp (fun x => x)
          refine tree_look rfl hSwr rfl (by intro w hS; obtain ⟨q0, q1, q2, q3, q4, q5, q6⟩ := SCX.out w hS; go_simp; with_reducible rfl) (fun c a w h => h) ?_; try simp only [Act.put, List.setIfInBounds_toArray, List.set_cons_succ, List.set_cons_zero]
          refine tree_act rfl rfl (fun K hK => ?_)
          have CK : Calls Try.prog 11 #[.agg #[.slice (some ⟨b1, 0, none⟩) 1 1, .slice (some ⟨b4, 0, none⟩) 1 1]] wr fun e w' => e = .returned (.int .i64 5) ∧ Below wr.heap.size wr w' := by
            have h := check_any (w := wr) (X := Lt wr) (p := ⟨[shFn ⟨#[97]⟩], [setT ⟨#[120]⟩ (shCall ⟨#[88]⟩ ⟨#[89]⟩)]⟩) (funcs_one (v := ⟨⟨#[102]⟩, some ⟨P, 0, none⟩, 2, 2, some ⟨S1, 0, none⟩, 1, 1⟩) hrow1 (lt_of_heap hrow1) (hSwr.1.isFunc (small1 _))) (set_at hrow4 hexp (small1 _) (hSwr.2.isExpr (small1 _) (small1 _))) (fun _ h => h)
            rw [v3] at h
            exact h
          refine wp_call 11 _ _ Try.func11 rfl (by kernel_rfl) _ _ rfl #[.agg #[.slice (some ⟨b1, 0, none⟩) 1 1, .slice (some ⟨b4, 0, none⟩) 1 1]] (by simp [Act.eval]) (R := fun v w1 => v = .int .i64 5 ∧ Below wr.heap.size wr w1) (calls_ret CK (by rintro e w1 ⟨rfl, h⟩; exact ⟨_, rfl, rfl, h⟩)) ?_
          rintro v wz ⟨rfl, hbz⟩
          have hSz : ShF wz P E1 S1 ⟨#[97]⟩ F1 ∧ ShC wz C1 ⟨#[88]⟩ ⟨#[89]⟩ T1 := ⟨hSwr.1.keep (Below.chg hbz), hSwr.2.keep (Below.chg hbz)⟩
          refine hK _ _ ⟨fun _ => hSz, ?_⟩
          clear hK K CK
          try simp only [Act.put, List.setIfInBounds_toArray, List.set_cons_succ, List.set_cons_zero]
          refine tree_look rfl hSz rfl (by intro w hS; obtain ⟨q0, q1, q2, q3, q4, q5, q6⟩ := SCX.out w hS; go_simp; with_reducible rfl) (fun c a w h => h) ?_; try simp only [Act.put, List.setIfInBounds_toArray, List.set_cons_succ, List.set_cons_zero]
          refine tree_end ?_
          go_wp2_with fail
          go_meet
          case rel => exact ⟨rfl, hSz.1, hSz.2, bel_trans HBw.out (((hcbd.then hcwp).then hcwq |>.then hcwr).then (Below.chg hbz)).to_below⟩
        · skip
          go_simp
          obtain ⟨wq, hwq⟩ : ∃ wq, wq = wp.alloc (.cells #[.int .i64 1, .string ⟨#[120]⟩, .int .i64 0, .slice (some ⟨bq, 0, none⟩) 1 1, .slice none 0 0, .slice none 0 0] 42) := ⟨_, rfl⟩
          obtain ⟨b4, hb4⟩ : ∃ b4, b4 = wp.heap.size := ⟨_, rfl⟩
          rw [← hwq, ← hb4]
          have hcwq : Chg (fun _ => False) wp wq := by rw [hwq]; exact (Chg.refl _ _).alloc _
          have hSwq : ShF wq P E1 S1 ⟨#[97]⟩ F1 ∧ ShC wq C1 ⟨#[88]⟩ ⟨#[89]⟩ T1 := ⟨hSwp.1.keep hcwq, hSwp.2.keep hcwq⟩
          have hrow4 : wq.heap[b4]? = some (.cells #[.int .i64 1, .string ⟨#[120]⟩, .int .i64 0, .slice (some ⟨bq, 0, none⟩) 1 1, .slice none 0 0, .slice none 0 0] 42 (0, 0)) := by rw [hwq]; exact heap_new' hb4.symm
          refine hK _ _ ⟨fun _ => hSwq, ?_⟩
          clear hK K hwq hb4
          try simp only [Act.put, List.setIfInBounds_toArray, List.set_cons_succ, List.set_cons_zero]
          replace hexp := hcwq.heap hexp (fun x => x)
          refine tree_act rfl rfl (fun K hK => ?_)
          go_simp
          obtain ⟨wr, hwr⟩ : ∃ wr, wr = wq.alloc (.cells #[.string ⟨#[102]⟩, .slice (some ⟨P, 0, none⟩) 2 2, .slice (some ⟨S1, 0, none⟩) 1 1] 38) := ⟨_, rfl⟩
          obtain ⟨b1, hb1⟩ : ∃ b1, b1 = wq.heap.size := ⟨_, rfl⟩
          rw [← hwr, ← hb1]
          have hcwr : Chg (fun _ => False) wq wr := by rw [hwr]; exact (Chg.refl _ _).alloc _
          have hSwr : ShF wr P E1 S1 ⟨#[97]⟩ F1 ∧ ShC wr C1 ⟨#[88]⟩ ⟨#[89]⟩ T1 := ⟨hSwq.1.keep hcwr, hSwq.2.keep hcwr⟩
          have hrow1 : wr.heap[b1]? = some (.cells #[.string ⟨#[102]⟩, .slice (some ⟨P, 0, none⟩) 2 2, .slice (some ⟨S1, 0, none⟩) 1 1] 38 (0, 0)) := by rw [hwr]; exact heap_new' hb1.symm
          refine hK _ _ ⟨fun _ => hSwr, ?_⟩
          clear hK K hwr hb1
          try simp only [Act.put, List.setIfInBounds_toArray, List.set_cons_succ, List.set_cons_zero]
          replace hrow4 := hcwr.heap hrow4 (fun x => x)
          replace hexp := hcwr.heap hexp (fun x => x)
          refine tree_look rfl hSwr rfl (by intro w hS; obtain ⟨q0, q1, q2, q3, q4, q5, q6⟩ := SCX.out w hS; go_simp; with_reducible rfl) (fun c a w h => h) ?_; try simp only [Act.put, List.setIfInBounds_toArray, List.set_cons_succ, List.set_cons_zero]
          refine tree_act rfl rfl (fun K hK => ?_)
          have CK : Calls Try.prog 11 #[.agg #[.slice (some ⟨b1, 0, none⟩) 1 1, .slice (some ⟨b4, 0, none⟩) 1 1]] wr fun e w' => e = .returned (.int .i64 5) ∧ Below wr.heap.size wr w' := by
            have h := check_any (w := wr) (X := Lt wr) (p := ⟨[shFn ⟨#[97]⟩], [setT ⟨#[120]⟩ (shCall ⟨#[88]⟩ ⟨#[89]⟩)]⟩) (funcs_one (v := ⟨⟨#[102]⟩, some ⟨P, 0, none⟩, 2, 2, some ⟨S1, 0, none⟩, 1, 1⟩) hrow1 (lt_of_heap hrow1) (hSwr.1.isFunc (small1 _))) (set_at hrow4 hexp (small1 _) (hSwr.2.isExpr (small1 _) (small1 _))) (fun _ h => h)
            rw [v3] at h
            exact h
          refine wp_call 11 _ _ Try.func11 rfl (by kernel_rfl) _ _ rfl #[.agg #[.slice (some ⟨b1, 0, none⟩) 1 1, .slice (some ⟨b4, 0, none⟩) 1 1]] (by simp [Act.eval]) (R := fun v w1 => v = .int .i64 5 ∧ Below wr.heap.size wr w1) (calls_ret CK (by rintro e w1 ⟨rfl, h⟩; exact ⟨_, rfl, rfl, h⟩)) ?_
          rintro v wz ⟨rfl, hbz⟩
          have hSz : ShF wz P E1 S1 ⟨#[97]⟩ F1 ∧ ShC wz C1 ⟨#[88]⟩ ⟨#[89]⟩ T1 := ⟨hSwr.1.keep (Below.chg hbz), hSwr.2.keep (Below.chg hbz)⟩
          refine hK _ _ ⟨fun _ => hSz, ?_⟩
          clear hK K CK
          try simp only [Act.put, List.setIfInBounds_toArray, List.set_cons_succ, List.set_cons_zero]
          refine tree_look rfl hSz rfl (by intro w hS; obtain ⟨q0, q1, q2, q3, q4, q5, q6⟩ := SCX.out w hS; go_simp; with_reducible rfl) (fun c a w h => h) ?_; try simp only [Act.put, List.setIfInBounds_toArray, List.set_cons_succ, List.set_cons_zero]
          refine tree_end ?_
          go_wp2_with fail
          go_meet
          case rel => exact ⟨rfl, hSz.1, hSz.2, bel_trans HBw.out (((hcbd.then hcwp).then hcwq |>.then hcwr).then (Below.chg hbz)).to_below⟩
  case rest =>
    obtain ⟨rfl, hFc, hCc, hBc⟩ := hcut
    obtain ⟨we, hwe⟩ : ∃ we : World, we = wc := ⟨_, rfl⟩
    rw [← hwe] at hFc hCc hBc ⊢
    have HFe := Lib.hid hFc
    have HCe := Lib.hid hCc
    have HBe := Lib.hid hBc
    clear hwe hFc hCc hBc HFw HCw HBw SCX
    go_wp2_with fail
    refine (name_any _ _).mono ?_; rintro e wf1 ⟨rfl, hf1⟩
    go_wp2_with fail
    refine (name_any _ _).mono ?_; rintro e wf2 ⟨rfl, hf2⟩
    have hce : Chg (fun _ => False) we wf2 := Below.chg (bel_trans hf1 hf2)
    have HFf := Lib.hid (HFe.out.keep hce)
    have HCf := Lib.hid (HCe.out.keep hce)
    have HBf : Hid (Below w0.heap.size w0 wf2) := Lib.hid (bel_trans HBe.out hce.to_below)
    clear HFe HCe HBe hce hf1 hf2
    have ct := cell_of_block HCf.out.bT 3
    have ft := frozen_of_block HCf.out.bT 3
    have hlt := lt_of_heap HCf.out.bT
    simp at ct
    obtain ⟨C2, hC2⟩ : ∃ C2, C2 = wf2.heap.size := ⟨_, rfl⟩
    go_wp2_with fail
    rw [← hC2]
    obtain ⟨wg, hwg⟩ : ∃ wg, wg = (wf2.setCell ⟨T1, 3, none⟩ (.slice (some ⟨C2, 0, none⟩) 2 2)).alloc (.cells #[.int .i64 2, .int .i64 0, .string ⟨#[120]⟩, .slice none 0 0, .int .i64 2, .int .i64 0, .string ⟨#[89]⟩, .slice none 0 0] 28) := ⟨_, rfl⟩
    rw [← hwg]
    have HCg : Hid (ShC wg C2 ⟨#[120]⟩ ⟨#[89]⟩ T1) := Lib.hid (by
      rw [hwg]
      exact ⟨heap_new' (by rw [hC2]; simp [World.setCell]), heap_old (HCf.out.setT _)⟩)
    have HFg : Hid (ShF wg P E1 S1 ⟨#[97]⟩ F1) := Lib.hid (by
      rw [hwg]
      exact (HFf.out.setT HCf.out _).keep ((Chg.refl _ _).alloc _))
    have HBg : Hid (Below w0.heap.size w0 wg) := Lib.hid (by
      rw [hwg]
      exact (HBf.out.setCell (p := ⟨T1, 3, none⟩) (by have := HTL.out; simpa using this) _).alloc (by simp [World.setCell]; exact HBf.out.size) _)
    clear hwg hC2 ct ft hlt HFf HCf HBf
    have HFw := HFg
    have HCw := HCg
    have HBw := HBg
    clear HFg HCg HBg
    have SCX : Hid (∀ wx, (ShF wx P E1 S1 ⟨#[97]⟩ F1 ∧ ShC wx C2 ⟨#[120]⟩ ⟨#[89]⟩ T1) → wx.cell? ⟨F1, 0, none⟩ = some (.string ⟨#[102]⟩) ∧ wx.cell? ⟨F1, 1, none⟩ = some (.slice (some ⟨P, 0, none⟩) 2 2) ∧ wx.cell? ⟨F1, 2, none⟩ = some (.slice (some ⟨S1, 0, none⟩) 1 1) ∧ wx.cell? ⟨T1, 0, none⟩ = some (.int .i64 5) ∧ wx.cell? ⟨T1, 1, none⟩ = some (.int .i64 0) ∧ wx.cell? ⟨T1, 2, none⟩ = some (.string ⟨#[102]⟩) ∧ wx.cell? ⟨T1, 3, none⟩ = some (.slice (some ⟨C2, 0, none⟩) 2 2)) := Lib.hid (fun wx h => ⟨cell_of_block h.1.bF 0, cell_of_block h.1.bF 1, cell_of_block h.1.bF 2, cell_of_block h.2.bT 0, cell_of_block h.2.bT 1, cell_of_block h.2.bT 2, cell_of_block h.2.bT 3⟩)
    go_upto_region 7 with fail
    go_cut [6] from 42 to 48 (fun a5 wx => a5 = .int .i64 0 ∧ ShF wx P E1 S1 ⟨#[97]⟩ F1 ∧ ShC wx C2 ⟨#[120]⟩ ⟨#[89]⟩ T1 ∧ Below w0.heap.size w0 wx)
    case first =>
        have hS0 : ShF wg.drew P E1 S1 ⟨#[97]⟩ F1 ∧ ShC wg.drew C2 ⟨#[120]⟩ ⟨#[89]⟩ T1 := ⟨HFw.out.keep (Chg.refl _ _).drew, HCw.out.keep (Chg.refl _ _).drew⟩
        refine wp_region_tree (S := fun w' => ShF w' P E1 S1 ⟨#[97]⟩ F1 ∧ ShC w' C2 ⟨#[120]⟩ ⟨#[89]⟩ T1) (N := fun i => true) (by kernel_rfl) (.look 0 (.look 2 (.fork 1 (.act 3 (.act 4 (.look 5 (.act 6 (.look 7 .done))))) 3 (.fork 1 (.act 4 (.look 5 (.act 6 (.look 7 .done)))) 4 (.act 1 (.look 5 (.act 6 (.look 7 .done)))))))) (by kernel_rfl) ?_
        obtain ⟨wbd, hwbd⟩ : ∃ wbd, wbd = wg.drew := ⟨_, rfl⟩
        have hcbd : Chg (fun _ => False) wg wbd := by rw [hwbd]; exact (Chg.refl _ _).drew
        rw [← hwbd] at hS0 ⊢
        clear hwbd
        refine tree_look rfl hS0 rfl (by intro w hS; obtain ⟨q0, q1, q2, q3, q4, q5, q6⟩ := SCX.out w hS; go_simp; with_reducible rfl) (fun c a w h => h) ?_; try simp only [Act.put, List.setIfInBounds_toArray, List.set_cons_succ, List.set_cons_zero]
        refine tree_look rfl hS0 rfl (by intro w hS; obtain ⟨q0, q1, q2, q3, q4, q5, q6⟩ := SCX.out w hS; go_simp; with_reducible rfl) (fun c a w h => h) ?_; try simp only [Act.put, List.setIfInBounds_toArray, List.set_cons_succ, List.set_cons_zero]
        refine tree_fork rfl rfl rfl rfl (fun K hK => ?_) (fun K hK => ?_)
        · skip
          go_simp
          obtain ⟨wp, hwp⟩ : ∃ wp, wp = wbd.alloc (.cells #[.string ⟨#[102]⟩, .slice (some ⟨P, 0, none⟩) 2 2, .slice (some ⟨S1, 0, none⟩) 1 1] 38) := ⟨_, rfl⟩
          obtain ⟨b1, hb1⟩ : ∃ b1, b1 = wbd.heap.size := ⟨_, rfl⟩
          rw [← hwp, ← hb1]
          have hcwp : Chg (fun _ => False) wbd wp := by rw [hwp]; exact (Chg.refl _ _).alloc _
          have hSwp : ShF wp P E1 S1 ⟨#[97]⟩ F1 ∧ ShC wp C2 ⟨#[120]⟩ ⟨#[89]⟩ T1 := ⟨hS0.1.keep hcwp, hS0.2.keep hcwp⟩
          have hrow1 : wp.heap[b1]? = some (.cells #[.string ⟨#[102]⟩, .slice (some ⟨P, 0, none⟩) 2 2, .slice (some ⟨S1, 0, none⟩) 1 1] 38 (0, 0)) := by rw [hwp]; exact heap_new' hb1.symm
          refine hK _ _ ⟨fun _ => hSwp, ?_⟩
          clear hK K hwp hb1
          try simp only [Act.put, List.setIfInBounds_toArray, List.set_cons_succ, List.set_cons_zero]
          refine tree_act rfl rfl (fun K hK => ?_)
          refine wp_call 20 _ _ Try.func20 rfl (by kernel_rfl) _ _ rfl #[.string ⟨#[120]⟩, .agg #[.int .i64 5, .int .i64 0, .string ⟨#[102]⟩, .slice (some ⟨C2, 0, none⟩) 2 2]] (by simp [Act.eval]) (R := fun v w1 => ∃ b, v = .agg #[.int .i64 1, .string ⟨#[120]⟩, .int .i64 0, .slice (some ⟨b, 0, none⟩) 1 1, .slice none 0 0, .slice none 0 0] ∧ w1.heap[b]? = some (.cells #[.int .i64 5, .int .i64 0, .string ⟨#[102]⟩, .slice (some ⟨C2, 0, none⟩) 2 2] 28 (0, 0)) ∧ Below wp.heap.size wp w1) (calls_ret (sets_any _ _ _ _ _ _ _ _) (by rintro e w1 ⟨b, rfl, _, h1, h2⟩; exact ⟨_, rfl, b, rfl, h1, h2⟩)) ?_
          rintro v wq ⟨bq, rfl, hexp, hbwq⟩
          have hcwq : Chg (fun _ => False) wp wq := Below.chg hbwq
          have hSwq : ShF wq P E1 S1 ⟨#[97]⟩ F1 ∧ ShC wq C2 ⟨#[120]⟩ ⟨#[89]⟩ T1 := ⟨hSwp.1.keep hcwq, hSwp.2.keep hcwq⟩
          refine hK _ _ ⟨fun _ => hSwq, ?_⟩
          clear hK K hbwq
          try simp only [Act.put, List.setIfInBounds_toArray, List.set_cons_succ, List.set_cons_zero]
          replace hrow1 := hcwq.heap hrow1 (fun x => x)
          refine tree_act rfl rfl (fun K hK => ?_)
          go_simp
          obtain ⟨wr, hwr⟩ : ∃ wr, wr = wq.alloc (.cells #[.int .i64 1, .string ⟨#[120]⟩, .int .i64 0, .slice (some ⟨bq, 0, none⟩) 1 1, .slice none 0 0, .slice none 0 0] 42) := ⟨_, rfl⟩
          obtain ⟨b4, hb4⟩ : ∃ b4, b4 = wq.heap.size := ⟨_, rfl⟩
          rw [← hwr, ← hb4]
          have hcwr : Chg (fun _ => False) wq wr := by rw [hwr]; exact (Chg.refl _ _).alloc _
          have hSwr : ShF wr P E1 S1 ⟨#[97]⟩ F1 ∧ ShC wr C2 ⟨#[120]⟩ ⟨#[89]⟩ T1 := ⟨hSwq.1.keep hcwr, hSwq.2.keep hcwr⟩
          have hrow4 : wr.heap[b4]? = some (.cells #[.int .i64 1, .string ⟨#[120]⟩, .int .i64 0, .slice (some ⟨bq, 0, none⟩) 1 1, .slice none 0 0, .slice none 0 0] 42 (0, 0)) := by rw [hwr]; exact heap_new' hb4.symm
          refine hK _ _ ⟨fun _ => hSwr, ?_⟩
          clear hK K hwr hb4
          try simp only [Act.put, List.setIfInBounds_toArray, List.set_cons_succ, List.set_cons_zero]
          replace hrow1 := hcwr.heap hrow1 (fun x => x)
          replace hexp := hcwr.heap hexp (fun x => x)
          refine tree_look rfl hSwr rfl (by intro w hS; obtain ⟨q0, q1, q2, q3, q4, q5, q6⟩ := SCX.out w hS; go_simp; with_reducible rfl) (fun c a w h => h) ?_; try simp only [Act.put, List.setIfInBounds_toArray, List.set_cons_succ, List.set_cons_zero]
          refine tree_act rfl rfl (fun K hK => ?_)
          have CK : Calls Try.prog 11 #[.agg #[.slice (some ⟨b1, 0, none⟩) 1 1, .slice (some ⟨b4, 0, none⟩) 1 1]] wr fun e w' => e = .returned (.int .i64 0) ∧ Below wr.heap.size wr w' := by
            have h := check_any (w := wr) (X := Lt wr) (p := ⟨[shFn ⟨#[97]⟩], [setT ⟨#[120]⟩ (shCall ⟨#[120]⟩ ⟨#[89]⟩)]⟩) (funcs_one (v := ⟨⟨#[102]⟩, some ⟨P, 0, none⟩, 2, 2, some ⟨S1, 0, none⟩, 1, 1⟩) hrow1 (lt_of_heap hrow1) (hSwr.1.isFunc (small1 _))) (set_at hrow4 hexp (small1 _) (hSwr.2.isExpr (small1 _) (small1 _))) (fun _ h => h)
            rw [v4] at h
            exact h
          refine wp_call 11 _ _ Try.func11 rfl (by kernel_rfl) _ _ rfl #[.agg #[.slice (some ⟨b1, 0, none⟩) 1 1, .slice (some ⟨b4, 0, none⟩) 1 1]] (by simp [Act.eval]) (R := fun v w1 => v = .int .i64 0 ∧ Below wr.heap.size wr w1) (calls_ret CK (by rintro e w1 ⟨rfl, h⟩; exact ⟨_, rfl, rfl, h⟩)) ?_
          rintro v wz ⟨rfl, hbz⟩
          have hSz : ShF wz P E1 S1 ⟨#[97]⟩ F1 ∧ ShC wz C2 ⟨#[120]⟩ ⟨#[89]⟩ T1 := ⟨hSwr.1.keep (Below.chg hbz), hSwr.2.keep (Below.chg hbz)⟩
          refine hK _ _ ⟨fun _ => hSz, ?_⟩
          clear hK K CK
          try simp only [Act.put, List.setIfInBounds_toArray, List.set_cons_succ, List.set_cons_zero]
          refine tree_look rfl hSz rfl (by intro w hS; obtain ⟨q0, q1, q2, q3, q4, q5, q6⟩ := SCX.out w hS; go_simp; with_reducible rfl) (fun c a w h => h) ?_; try simp only [Act.put, List.setIfInBounds_toArray, List.set_cons_succ, List.set_cons_zero]
          refine tree_end ?_
          go_wp2_with fail
          go_meet
          case rel => exact ⟨rfl, hSz.1, hSz.2, bel_trans HBw.out (((hcbd.then hcwp).then hcwq |>.then hcwr).then (Below.chg hbz)).to_below⟩
        · skip
          refine wp_call 20 _ _ Try.func20 rfl (by kernel_rfl) _ _ rfl #[.string ⟨#[120]⟩, .agg #[.int .i64 5, .int .i64 0, .string ⟨#[102]⟩, .slice (some ⟨C2, 0, none⟩) 2 2]] (by simp [Act.eval]) (R := fun v w1 => ∃ b, v = .agg #[.int .i64 1, .string ⟨#[120]⟩, .int .i64 0, .slice (some ⟨b, 0, none⟩) 1 1, .slice none 0 0, .slice none 0 0] ∧ w1.heap[b]? = some (.cells #[.int .i64 5, .int .i64 0, .string ⟨#[102]⟩, .slice (some ⟨C2, 0, none⟩) 2 2] 28 (0, 0)) ∧ Below wbd.heap.size wbd w1) (calls_ret (sets_any _ _ _ _ _ _ _ _) (by rintro e w1 ⟨b, rfl, _, h1, h2⟩; exact ⟨_, rfl, b, rfl, h1, h2⟩)) ?_
          rintro v wp ⟨bq, rfl, hexp, hbwp⟩
          have hcwp : Chg (fun _ => False) wbd wp := Below.chg hbwp
          have hSwp : ShF wp P E1 S1 ⟨#[97]⟩ F1 ∧ ShC wp C2 ⟨#[120]⟩ ⟨#[89]⟩ T1 := ⟨hS0.1.keep hcwp, hS0.2.keep hcwp⟩
          refine hK _ _ ⟨fun _ => hSwp, ?_⟩
          clear hK K hbwp
          try simp only [Act.put, List.setIfInBounds_toArray, List.set_cons_succ, List.set_cons_zero]
          refine tree_fork rfl rfl rfl rfl (fun K hK => ?_) (fun K hK => ?_)
          · skip
            go_simp
            obtain ⟨wq, hwq⟩ : ∃ wq, wq = wp.alloc (.cells #[.string ⟨#[102]⟩, .slice (some ⟨P, 0, none⟩) 2 2, .slice (some ⟨S1, 0, none⟩) 1 1] 38) := ⟨_, rfl⟩
            obtain ⟨b1, hb1⟩ : ∃ b1, b1 = wp.heap.size := ⟨_, rfl⟩
            rw [← hwq, ← hb1]
            have hcwq : Chg (fun _ => False) wp wq := by rw [hwq]; exact (Chg.refl _ _).alloc _
            have hSwq : ShF wq P E1 S1 ⟨#[97]⟩ F1 ∧ ShC wq C2 ⟨#[120]⟩ ⟨#[89]⟩ T1 := ⟨hSwp.1.keep hcwq, hSwp.2.keep hcwq⟩
            have hrow1 : wq.heap[b1]? = some (.cells #[.string ⟨#[102]⟩, .slice (some ⟨P, 0, none⟩) 2 2, .slice (some ⟨S1, 0, none⟩) 1 1] 38 (0, 0)) := by rw [hwq]; exact heap_new' hb1.symm
            refine hK _ _ ⟨fun _ => hSwq, ?_⟩
            clear hK K hwq hb1
            try simp only [Act.put, List.setIfInBounds_toArray, List.set_cons_succ, List.set_cons_zero]
            replace hexp := hcwq.heap hexp (fun x => x)
            refine tree_act rfl rfl (fun K hK => ?_)
            go_simp
            obtain ⟨wr, hwr⟩ : ∃ wr, wr = wq.alloc (.cells #[.int .i64 1, .string ⟨#[120]⟩, .int .i64 0, .slice (some ⟨bq, 0, none⟩) 1 1, .slice none 0 0, .slice none 0 0] 42) := ⟨_, rfl⟩
            obtain ⟨b4, hb4⟩ : ∃ b4, b4 = wq.heap.size := ⟨_, rfl⟩
            rw [← hwr, ← hb4]
            have hcwr : Chg (fun _ => False) wq wr := by rw [hwr]; exact (Chg.refl _ _).alloc _
            have hSwr : ShF wr P E1 S1 ⟨#[97]⟩ F1 ∧ ShC wr C2 ⟨#[120]⟩ ⟨#[89]⟩ T1 := ⟨hSwq.1.keep hcwr, hSwq.2.keep hcwr⟩
            have hrow4 : wr.heap[b4]? = some (.cells #[.int .i64 1, .string ⟨#[120]⟩, .int .i64 0, .slice (some ⟨bq, 0, none⟩) 1 1, .slice none 0 0, .slice none 0 0] 42 (0, 0)) := by rw [hwr]; exact heap_new' hb4.symm
            refine hK _ _ ⟨fun _ => hSwr, ?_⟩
            clear hK K hwr hb4
            try simp only [Act.put, List.setIfInBounds_toArray, List.set_cons_succ, List.set_cons_zero]
            replace hrow1 := hcwr.heap hrow1 (fun x => x)
            replace hexp := hcwr.heap hexp (fun x => x)
            refine tree_look rfl hSwr rfl (by intro w hS; obtain ⟨q0, q1, q2, q3, q4, q5, q6⟩ := SCX.out w hS; go_simp; with_reducible rfl) (fun c a w h => h) ?_; try simp only [Act.put, List.setIfInBounds_toArray, List.set_cons_succ, List.set_cons_zero]
            refine tree_act rfl rfl (fun K hK => ?_)
            have CK : Calls Try.prog 11 #[.agg #[.slice (some ⟨b1, 0, none⟩) 1 1, .slice (some ⟨b4, 0, none⟩) 1 1]] wr fun e w' => e = .returned (.int .i64 0) ∧ Below wr.heap.size wr w' := by
              have h := check_any (w := wr) (X := Lt wr) (p := ⟨[shFn ⟨#[97]⟩], [setT ⟨#[120]⟩ (shCall ⟨#[120]⟩ ⟨#[89]⟩)]⟩) (funcs_one (v := ⟨⟨#[102]⟩, some ⟨P, 0, none⟩, 2, 2, some ⟨S1, 0, none⟩, 1, 1⟩) hrow1 (lt_of_heap hrow1) (hSwr.1.isFunc (small1 _))) (set_at hrow4 hexp (small1 _) (hSwr.2.isExpr (small1 _) (small1 _))) (fun _ h => h)
              rw [v4] at h
              exact h
            refine wp_call 11 _ _ Try.func11 rfl (by kernel_rfl) _ _ rfl #[.agg #[.slice (some ⟨b1, 0, none⟩) 1 1, .slice (some ⟨b4, 0, none⟩) 1 1]] (by simp [Act.eval]) (R := fun v w1 => v = .int .i64 0 ∧ Below wr.heap.size wr w1) (calls_ret CK (by rintro e w1 ⟨rfl, h⟩; exact ⟨_, rfl, rfl, h⟩)) ?_
            rintro v wz ⟨rfl, hbz⟩
            have hSz : ShF wz P E1 S1 ⟨#[97]⟩ F1 ∧ ShC wz C2 ⟨#[120]⟩ ⟨#[89]⟩ T1 := ⟨hSwr.1.keep (Below.chg hbz), hSwr.2.keep (Below.chg hbz)⟩
            refine hK _ _ ⟨fun _ => hSz, ?_⟩
            clear hK K CK
            try simp only [Act.put, List.setIfInBounds_toArray, List.set_cons_succ, List.set_cons_zero]
            refine tree_look rfl hSz rfl (by intro w hS; obtain ⟨q0, q1, q2, q3, q4, q5, q6⟩ := SCX.out w hS; go_simp; with_reducible rfl) (fun c a w h => h) ?_; try simp only [Act.put, List.setIfInBounds_toArray, List.set_cons_succ, List.set_cons_zero]
            refine tree_end ?_
            go_wp2_with fail
            go_meet
            case rel => exact ⟨rfl, hSz.1, hSz.2, bel_trans HBw.out (((hcbd.then hcwp).then hcwq |>.then hcwr).then (Below.chg hbz)).to_below⟩
          · skip
            go_simp
            obtain ⟨wq, hwq⟩ : ∃ wq, wq = wp.alloc (.cells #[.int .i64 1, .string ⟨#[120]⟩, .int .i64 0, .slice (some ⟨bq, 0, none⟩) 1 1, .slice none 0 0, .slice none 0 0] 42) := ⟨_, rfl⟩
            obtain ⟨b4, hb4⟩ : ∃ b4, b4 = wp.heap.size := ⟨_, rfl⟩
            rw [← hwq, ← hb4]
            have hcwq : Chg (fun _ => False) wp wq := by rw [hwq]; exact (Chg.refl _ _).alloc _
            have hSwq : ShF wq P E1 S1 ⟨#[97]⟩ F1 ∧ ShC wq C2 ⟨#[120]⟩ ⟨#[89]⟩ T1 := ⟨hSwp.1.keep hcwq, hSwp.2.keep hcwq⟩
            have hrow4 : wq.heap[b4]? = some (.cells #[.int .i64 1, .string ⟨#[120]⟩, .int .i64 0, .slice (some ⟨bq, 0, none⟩) 1 1, .slice none 0 0, .slice none 0 0] 42 (0, 0)) := by rw [hwq]; exact heap_new' hb4.symm
            refine hK _ _ ⟨fun _ => hSwq, ?_⟩
            clear hK K hwq hb4
            try simp only [Act.put, List.setIfInBounds_toArray, List.set_cons_succ, List.set_cons_zero]
            replace hexp := hcwq.heap hexp (fun x => x)
            refine tree_act rfl rfl (fun K hK => ?_)
            go_simp
            obtain ⟨wr, hwr⟩ : ∃ wr, wr = wq.alloc (.cells #[.string ⟨#[102]⟩, .slice (some ⟨P, 0, none⟩) 2 2, .slice (some ⟨S1, 0, none⟩) 1 1] 38) := ⟨_, rfl⟩
            obtain ⟨b1, hb1⟩ : ∃ b1, b1 = wq.heap.size := ⟨_, rfl⟩
            rw [← hwr, ← hb1]
            have hcwr : Chg (fun _ => False) wq wr := by rw [hwr]; exact (Chg.refl _ _).alloc _
            have hSwr : ShF wr P E1 S1 ⟨#[97]⟩ F1 ∧ ShC wr C2 ⟨#[120]⟩ ⟨#[89]⟩ T1 := ⟨hSwq.1.keep hcwr, hSwq.2.keep hcwr⟩
            have hrow1 : wr.heap[b1]? = some (.cells #[.string ⟨#[102]⟩, .slice (some ⟨P, 0, none⟩) 2 2, .slice (some ⟨S1, 0, none⟩) 1 1] 38 (0, 0)) := by rw [hwr]; exact heap_new' hb1.symm
            refine hK _ _ ⟨fun _ => hSwr, ?_⟩
            clear hK K hwr hb1
            try simp only [Act.put, List.setIfInBounds_toArray, List.set_cons_succ, List.set_cons_zero]
            replace hrow4 := hcwr.heap hrow4 (fun x => x)
            replace hexp := hcwr.heap hexp (fun x => x)
            refine tree_look rfl hSwr rfl (by intro w hS; obtain ⟨q0, q1, q2, q3, q4, q5, q6⟩ := SCX.out w hS; go_simp; with_reducible rfl) (fun c a w h => h) ?_; try simp only [Act.put, List.setIfInBounds_toArray, List.set_cons_succ, List.set_cons_zero]
            refine tree_act rfl rfl (fun K hK => ?_)
            have CK : Calls Try.prog 11 #[.agg #[.slice (some ⟨b1, 0, none⟩) 1 1, .slice (some ⟨b4, 0, none⟩) 1 1]] wr fun e w' => e = .returned (.int .i64 0) ∧ Below wr.heap.size wr w' := by
              have h := check_any (w := wr) (X := Lt wr) (p := ⟨[shFn ⟨#[97]⟩], [setT ⟨#[120]⟩ (shCall ⟨#[120]⟩ ⟨#[89]⟩)]⟩) (funcs_one (v := ⟨⟨#[102]⟩, some ⟨P, 0, none⟩, 2, 2, some ⟨S1, 0, none⟩, 1, 1⟩) hrow1 (lt_of_heap hrow1) (hSwr.1.isFunc (small1 _))) (set_at hrow4 hexp (small1 _) (hSwr.2.isExpr (small1 _) (small1 _))) (fun _ h => h)
              rw [v4] at h
              exact h
            refine wp_call 11 _ _ Try.func11 rfl (by kernel_rfl) _ _ rfl #[.agg #[.slice (some ⟨b1, 0, none⟩) 1 1, .slice (some ⟨b4, 0, none⟩) 1 1]] (by simp [Act.eval]) (R := fun v w1 => v = .int .i64 0 ∧ Below wr.heap.size wr w1) (calls_ret CK (by rintro e w1 ⟨rfl, h⟩; exact ⟨_, rfl, rfl, h⟩)) ?_
            rintro v wz ⟨rfl, hbz⟩
            have hSz : ShF wz P E1 S1 ⟨#[97]⟩ F1 ∧ ShC wz C2 ⟨#[120]⟩ ⟨#[89]⟩ T1 := ⟨hSwr.1.keep (Below.chg hbz), hSwr.2.keep (Below.chg hbz)⟩
            refine hK _ _ ⟨fun _ => hSz, ?_⟩
            clear hK K CK
            try simp only [Act.put, List.setIfInBounds_toArray, List.set_cons_succ, List.set_cons_zero]
            refine tree_look rfl hSz rfl (by intro w hS; obtain ⟨q0, q1, q2, q3, q4, q5, q6⟩ := SCX.out w hS; go_simp; with_reducible rfl) (fun c a w h => h) ?_; try simp only [Act.put, List.setIfInBounds_toArray, List.set_cons_succ, List.set_cons_zero]
            refine tree_end ?_
            go_wp2_with fail
            go_meet
            case rel => exact ⟨rfl, hSz.1, hSz.2, bel_trans HBw.out (((hcbd.then hcwp).then hcwq |>.then hcwr).then (Below.chg hbz)).to_below⟩
    case rest =>
      obtain ⟨rfl, hFc, hCc, hBc⟩ := hcut
      obtain ⟨wh, hwh⟩ : ∃ wh : World, wh = wc := ⟨_, rfl⟩
      rw [← hwh] at hFc hBc ⊢
      have HFh := Lib.hid hFc
      have HBh := Lib.hid hBc
      clear hwh hFc hCc hBc HFw HCw HBw SCX
      go_wp2_with fail
      refine (name_any _ _).mono ?_; rintro e wi ⟨rfl, hi1⟩
      have HFi := Lib.hid (HFh.out.keep (Below.chg hi1))
      have HBi : Hid (Below w0.heap.size w0 wi) := Lib.hid (bel_trans HBh.out hi1)
      clear HFh HBh hi1
      have cf := cell_of_block HFi.out.bF 2
      have ff := frozen_of_block HFi.out.bF 2
      have hlt := lt_of_heap HFi.out.bF
      simp at cf
      obtain ⟨E2, hE2⟩ : ∃ E2, E2 = wi.heap.size := ⟨_, rfl⟩
      go_upto_region 9 with fail
      rw [← hE2]
      obtain ⟨wj, hwj⟩ : ∃ wj, wj = ((wi.setCell ⟨F1, 2, none⟩ (.slice (some ⟨E2 + 1, 0, none⟩) 1 1)).alloc (.cells #[.int .i64 2, .int .i64 0, .string ⟨#[66]⟩, .slice none 0 0] 28)).alloc (.cells #[.int .i64 9, .string ⟨#[]⟩, .int .i64 0, .slice (some ⟨E2, 0, none⟩) 1 1, .slice none 0 0, .slice none 0 0] 42) := ⟨_, rfl⟩
      rw [← hwj]
      have HFj : Hid (ShF wj P E2 (E2 + 1) ⟨#[66]⟩ F1) := Lib.hid (by
        rw [hwj]
        exact ⟨heap_old (heap_old ((heap_set_ne _ HFi.out.ne).trans HFi.out.hP)), heap_old (heap_new' (by rw [hE2]; simp [World.setCell])), heap_new' (by rw [hE2]; simp [World.setCell]), heap_old (heap_old (heap_set HFi.out.bF 2 _))⟩)
      have HBj : Hid (Below w0.heap.size w0 wj) := Lib.hid (by
        have hs := HBi.out.size
        rw [hwj]
        exact ((HBi.out.setCell (p := ⟨F1, 2, none⟩) HFL.out _).alloc (by simp [World.setCell]; omega) _).alloc (by simp [World.setCell]; omega) _)
      clear hwj hE2 cf ff hlt HFi HBi
      have c0 := cell_of_block HFj.out.bF 0
      have c1 := cell_of_block HFj.out.bF 1
      have c2 := cell_of_block HFj.out.bF 2
      simp at c0 c1 c2
      obtain ⟨R9, hR9⟩ : ∃ R9, R9 = wj.heap.size := ⟨_, rfl⟩
      go_wp2_with fail
      rw [← hR9]
      obtain ⟨wk, hwk⟩ : ∃ wk, wk = wj.alloc (.cells #[.string ⟨#[102]⟩, .slice (some ⟨P, 0, none⟩) 2 2, .slice (some ⟨E2 + 1, 0, none⟩) 1 1] 38) := ⟨_, rfl⟩
      rw [← hwk]
      have hck : Chg (fun _ => False) wj wk := by rw [hwk]; exact (Chg.refl _ _).alloc _
      have CK : Calls Try.prog 11 #[.agg #[.slice (some ⟨R9, 0, none⟩) 1 1, .slice none 0 0]] wk fun e w' => e = .returned (.int .i64 5) ∧ Below wk.heap.size wk w' := by
        have hrow : wk.heap[R9]? = some (.cells #[.string ⟨#[102]⟩, .slice (some ⟨P, 0, none⟩) 2 2, .slice (some ⟨E2 + 1, 0, none⟩) 1 1] 38 (0, 0)) := by rw [hwk]; exact heap_new' hR9.symm
        have h := check_any (w := wk) (X := Lt wk) (p := ⟨[shFn ⟨#[66]⟩], []⟩) (funcs_one (v := ⟨⟨#[102]⟩, some ⟨P, 0, none⟩, 2, 2, some ⟨E2 + 1, 0, none⟩, 1, 1⟩) hrow (lt_of_heap hrow) ((HFj.out.keep hck).isFunc (small1 _))) (stmts_nil _ _) (fun _ h => h)
        rw [v5] at h
        exact h
      have HK9 := Lib.hid (And.intro CK hck)
      clear CK hck hwk hR9 c0 c1 c2
      refine HK9.out.1.mono ?_; rintro e wl ⟨rfl, hl1⟩
      have HBl : Hid (Below w0.heap.size w0 wl) := Lib.hid (bel_trans (bel_trans HBj.out HK9.out.2.to_below) hl1)
      clear HK9 HBj HFj hl1
      go_wp2_with fail
      refine (name_any _ _).mono ?_; rintro e wm ⟨rfl, hm1⟩
      have HBm : Hid (Below w0.heap.size w0 wm) := Lib.hid (bel_trans HBl.out hm1)
      clear HBl hm1
      obtain ⟨E3, hE3⟩ : ∃ E3, E3 = wm.heap.size := ⟨_, rfl⟩
      go_wp2_with fail
      rw [← hE3]
      obtain ⟨wn, hwn⟩ : ∃ wn, wn = (wm.alloc (.cells #[.int .i64 2, .int .i64 0, .string ⟨#[88]⟩, .slice none 0 0] 28)).alloc (.cells #[.int .i64 8, .string ⟨#[]⟩, .int .i64 0, .slice (some ⟨E3, 0, none⟩) 1 1, .slice none 0 0, .slice none 0 0] 42) := ⟨_, rfl⟩
      rw [← hwn]
      have hcn : Chg (fun _ => False) wm wn := by rw [hwn]; exact ((Chg.refl _ _).alloc _).alloc _
      have CN : Calls Try.prog 11 #[.agg #[.slice none 0 0, .slice (some ⟨E3 + 1, 0, none⟩) 1 1]] wn fun e w' => e = .returned (.int .i64 5) ∧ Below wn.heap.size wn w' := by
        have g1 : wn.heap[E3 + 1]? = some (.cells #[.int .i64 8, .string ⟨#[]⟩, .int .i64 0, .slice (some ⟨E3, 0, none⟩) 1 1, .slice none 0 0, .slice none 0 0] 42 (0, 0)) := by rw [hwn]; exact heap_new' (by rw [hE3]; simp)
        have g2 : wn.heap[E3]? = some (.cells #[.int .i64 2, .int .i64 0, .string ⟨#[88]⟩, .slice none 0 0] 28 (0, 0)) := by rw [hwn]; exact heap_old (heap_new' hE3.symm)
        have h := check_any (w := wn) (X := Lt wn) (p := ⟨[], [.mk 8 ⟨#[]⟩ 0 [varT ⟨#[88]⟩] [] []]⟩) (funcs_nil _ _) (while_at g1 g2 (small1 _)) (fun _ h => h)
        rw [v6] at h
        exact h
      have HKn := Lib.hid (And.intro CN hcn)
      clear CN hcn hwn hE3
      refine HKn.out.1.mono ?_; rintro e wo ⟨rfl, ho1⟩
      have HBo : Hid (Below w0.heap.size w0 wo) := Lib.hid (bel_trans (bel_trans HBm.out HKn.out.2.to_below) ho1)
      clear HKn HBm ho1
      go_wp2_with fail
      refine (name_any _ _).mono ?_; rintro e wp ⟨rfl, hp1⟩
      have CO1 : Calls Try.prog 13 #[.agg #[.int .i64 2, .int .i64 0, .string ⟨#[88]⟩, .slice none 0 0]] wp fun e w' => e = .returned (.bool true) ∧ Below wp.heap.size wp w' := by
        have h := of_tree (isExpr_var wp (Lt wp) ⟨#[88]⟩ (small1 _))
        rw [secE_var, gX] at h
        exact h
      go_wp2_with fail
      refine CO1.mono ?_; rintro e wq ⟨rfl, hq1⟩
      go_wp2_with fail
      refine (name_any _ _).mono ?_; rintro e wr ⟨rfl, hr1⟩
      have CO2 : Calls Try.prog 13 #[.agg #[.int .i64 2, .int .i64 0, .string ⟨#[120]⟩, .slice none 0 0]] wr fun e w' => e = .returned (.bool false) ∧ Below wr.heap.size wr w' := by
        have h := of_tree (isExpr_var wr (Lt wr) ⟨#[120]⟩ (small1 _))
        rw [secE_var, gx] at h
        exact h
      go_wp2_with fail
      refine CO2.mono ?_; rintro e ws ⟨rfl, hs1⟩
      go_wp2_with fail
      go_ret
      exact ⟨rfl, bel_trans (bel_trans (bel_trans (bel_trans HBo.out hp1) hq1) hr1) hs1⟩
end Go.Proofs.Ytnpmgnfohaeonaa
