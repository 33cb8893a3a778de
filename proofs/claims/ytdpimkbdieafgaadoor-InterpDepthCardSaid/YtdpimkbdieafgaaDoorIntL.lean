/- interp: run. -/
import Derived.Test.YtdpimkbdieafgaaDoorIntJ
import Derived.Test.YtdpimkbdieafgaaDoorIntK
import Derived.WalkMore
import Derived.Deep.LoopGhost
namespace Go.Proofs.YtdpimkbdieafgaaDoor
set_option linter.unusedVariables false
set_option linter.unusedSimpArgs false
open Go.RowKit


set_option maxHeartbeats 8000000 in
set_option maxRecDepth 100000 in
theorem run_step {W0 : World} {fs : List FnR} {V : Value} {m : Nat} {μ : Nat} (hC : Ctx W0 fs V) (hH : CallH W0 fs V m μ) : RunH W0 fs V m (μ + 1) := by
  intro w X d g fn args VA B c n hm hg hμ hf hd1 hd hA hAX hal hn hsrc
  obtain ⟨c2, _, _, _⟩ := hm.box
  obtain ⟨b, off, cap, B5, c5, e, hb, hcap, ⟨q0, q1, q2, q3, q4⟩, _⟩ := (hC.fns.keep hm.bel).get fn hf
  subst e
  obtain ⟨hgd, ⟨hhd, hty⟩, hlen⟩ := hC.fn hf
  obtain ⟨h1, h2, h3, h4⟩ := hhd
  obtain ⟨vs, hvse⟩ : ∃ vs : Nat, (vs : Int) = fs[fn].vs := ⟨fs[fn].vs.toNat, by omega⟩
  obtain ⟨ar, hare⟩ : ∃ ar : Nat, (ar : Int) = fs[fn].ar := ⟨fs[fn].ar.toNat, by omega⟩
  have hvs : vs ≤ 64 := by omega
  have har : ar ≤ 64 := by omega
  obtain ⟨k, hk⟩ : ∃ k, k = fs.length := ⟨_, rfl⟩
  obtain ⟨nm, hnm⟩ : ∃ nm, nm = fs[fn].nm := ⟨_, rfl⟩
  obtain ⟨ps, hpse⟩ : ∃ ps, ps = fs[fn].ps := ⟨_, rfl⟩
  have hfk : fn < k := by omega
  have hale : args.length ≤ vs := by omega
  rw [← hk] at c2 hcap
  rw [← hnm] at q0
  rw [← hpse] at q1
  rw [← hvse] at q2
  rw [← hare] at q3
  rw [← hn] at q4
  obtain ⟨w0, hw0⟩ : ∃ w0, w0 = w.alloc (.cells #[.string nm, .int .i64 ps, .int .i64 (vs : Int), .int .i64 (ar : Int), .slice B5 n c5] 46) := ⟨_, rfl⟩
  obtain ⟨PX, hPX⟩ : ∃ PX, PX = w.heap.size := ⟨_, rfl⟩
  have hc0 : Chg (fun _ => False) w w0 := by rw [hw0]; exact (Chg.refl _ _).alloc _
  have hx0 : w0.heap[PX]? = some (.cells #[.string nm, .int .i64 ps, .int .i64 (vs : Int), .int .i64 (ar : Int), .slice B5 n c5] 46 (0, 0)) := by rw [hw0]; exact heap_new' hPX.symm
  have HSK : Hid (∀ w', Chg (fun _ => False) w0 w' → w'.cell? ⟨PX, 2, none⟩ = some (.int .i64 (vs : Int)) ∧ w'.cell? ⟨PX, 3, none⟩ = some (.int .i64 (ar : Int))) := Lib.hid (fun w' hc => by
    have h := hc.heap hx0 (fun x => x)
    have z2 := cell_of_block h 2
    have z3 := cell_of_block h 3
    simp at z2 z3
    exact ⟨z2, z3⟩)
  have HM := Lib.hid hm
  have HG := Lib.hid hg
  have HWE := Lib.hid (And.intro hw0 hPX)
  have HC0 := Lib.hid hc0
  have HA := Lib.hid hA
  have HX := Lib.hid (And.intro hAX (And.intro hal (And.intro hvse hare)))
  have HSRC := Lib.hid hsrc
  have HN := Lib.hid hn
  have HTY := Lib.hid (And.intro hgd hty)
  have HLEN := Lib.hid hlen
  have HCC := Lib.hid hC
  have HHH := Lib.hid hH
  have HMU := Lib.hid hμ
  have HF := Lib.hid hf
  have HD := Lib.hid (And.intro hd1 hd)
  clear hm hg hw0 hPX hc0 hx0 hA hAX hal hvse hare hsrc hn hgd hty hlen hC hH hμ h1 h2 h3 h4 hk hnm hpse hd1 hd
  go_enter Tryd.func38, Tryd.ntmps38
  go_wp2_with fail
  go_step3
  go_upto_region 2 with fail
  rw [← HWE.out.1, ← HWE.out.2]
  clear c2 q0 q1 q2 q3 q4
  go_cut [13] from 26 to 34 (fun v wx => ∃ (F GA : Nat) (VB : Value), v = .pointer (some ⟨F, 0, none⟩) ∧ Hid (Begun w0 wx F GA VB vs ar))
  case first J K' hJ hK' =>
    have hmk := mkL vs hvs
    obtain ⟨wd, hwd⟩ : ∃ wd, wd = w0.drew := ⟨_, rfl⟩
    have hcd : Chg (fun _ => False) w0 wd := by rw [hwd]; exact (Chg.refl _ _).drew
    have hS := HSK.out wd hcd
    refine wp_region_tree (S := fun w' => w'.cell? ⟨PX, 2, none⟩ = some (.int .i64 (vs : Int)) ∧ w'.cell? ⟨PX, 3, none⟩ = some (.int .i64 (ar : Int))) (N := fun i => true) (by kernel_rfl) (.look 0 (.look 1 (.look 4 (.look 5 (.fork 2 (.act 3 (.act 6 (.look 7 (.act 8 (.look 9 .done))))) 3 (.fork 2 (.act 6 (.look 7 (.act 8 (.look 9 .done)))) 6 (.act 2 (.look 7 (.act 8 (.look 9 .done)))))))))) (by kernel_rfl) ?_
    rw [← hwd]
    clear hwd
    iterate 4 (refine tree_look rfl hS rfl (by intro w hS; obtain ⟨p0, p1⟩ := hS; go_simp; with_reducible rfl) (fun c a w h => h) ?_; simp only [Act.put, List.setIfInBounds_toArray, List.set_cons_succ, List.set_cons_zero])
    refine tree_fork rfl rfl rfl rfl (fun K hK => ?_) (fun K hK => ?_)
    · go_simp
      obtain ⟨y1, hy1⟩ : ∃ z, z = wd.alloc (.cells (madeCells #[.int .i64 0] vs) 2) := ⟨_, rfl⟩
      obtain ⟨GA, hGA⟩ : ∃ z, z = wd.heap.size := ⟨_, rfl⟩
      have cA : Chg (fun _ => False) wd y1 := by rw [hy1]; exact (Chg.refl _ _).alloc _
      have bA : y1.heap[GA]? = some (.cells (madeCells #[.int .i64 0] vs) 2 (0, 0)) := by rw [hy1]; exact heap_new' hGA.symm
      rw [← hy1, ← hGA]
      have HGA := Lib.hid hGA
      clear hGA
      have hSn := HSK.out y1 (hcd.then cA)
      refine hK _ _ ⟨fun _ => hSn, ?_⟩
      clear hK K hS hy1
      have hS := hSn
      clear hSn
      try simp only [Act.put, List.setIfInBounds_toArray, List.set_cons_succ, List.set_cons_zero]
      refine tree_act rfl rfl (fun K hK => ?_)
      go_simp
      obtain ⟨y2, hy2⟩ : ∃ z, z = y1.alloc (.cells #[.int .i64 (-1)] 3) := ⟨_, rfl⟩
      obtain ⟨GX, hGX⟩ : ∃ z, z = y1.heap.size := ⟨_, rfl⟩
      have cX : Chg (fun _ => False) y1 y2 := by rw [hy2]; exact (Chg.refl _ _).alloc _
      have bX : y2.cell? ⟨GX, 0, none⟩ = some (.int .i64 (-1)) := by rw [hy2, cell_of_block (heap_new' hGX.symm) 0]; rfl
      rw [← hy2, ← hGX]
      clear hGX
      have hSn := HSK.out y2 ((hcd.then cA).then cX)
      refine hK _ _ ⟨fun _ => hSn, ?_⟩
      clear hK K hS hy2
      have hS := hSn
      clear hSn
      try simp only [Act.put, List.setIfInBounds_toArray, List.set_cons_succ, List.set_cons_zero]
      refine tree_act rfl rfl (fun K hK => ?_)
      refine wp_call 60 _ _ Tryd.func60 rfl (by kernel_rfl) _ _ rfl #[.slice (some ⟨GX, 0, none⟩) 1 1, .int .i64 (ar : Int)] (by simp [Act.eval]) (R := fun v w' => ∃ G, v = .slice (some ⟨G, 0, none⟩) ar ar ∧ w'.ownsRow 0 3 1 (.slice (some ⟨G, 0, none⟩) ar ar) ar (nums (List.replicate ar (-1))) ∧ y2.heap.size ≤ G ∧ Chg (fun _ => False) y2 w') (calls_ret (repeat_any ar har bX) (by rintro e w' ⟨G, rfl, h1, h2, h3⟩; exact ⟨_, rfl, G, rfl, h1, h2, h3⟩)) ?_
      rintro v y3 ⟨GB, rfl, oB, nB, cB⟩
      have hSn := HSK.out y3 (((hcd.then cA).then cX).then cB)
      refine hK _ _ ⟨fun _ => hSn, ?_⟩
      clear hK K hS
      have hS := hSn
      clear hSn
      try simp only [Act.put, List.setIfInBounds_toArray, List.set_cons_succ, List.set_cons_zero]
      iterate 1 (refine tree_look rfl hS rfl (by intro w hS; obtain ⟨p0, p1⟩ := hS; go_simp; with_reducible rfl) (fun c a w h => h) ?_; simp only [Act.put, List.setIfInBounds_toArray, List.set_cons_succ, List.set_cons_zero])
      refine tree_act rfl rfl (fun K hK => ?_)
      have hst := FSt.new (w := y3) (made_row (cB.heap (cX.heap bA (fun x => x)) (fun x => x)) hvs) (oB) (fun e => by have := lt_of_heap (cX.heap bA (fun x => x)); omega)
      have hcz : Chg (fun _ => False) w0 (y3.alloc (.cells #[.slice (some ⟨GA, 0, none⟩) vs vs, .slice (some ⟨GB, 0, none⟩) ar ar, .slice none 0 0] 134)) := (((hcd.then cA).then cX).then cB).alloc _
      have hbg : Begun w0 (y3.alloc (.cells #[.slice (some ⟨GA, 0, none⟩) vs vs, .slice (some ⟨GB, 0, none⟩) ar ar, .slice none 0 0] 134)) y3.heap.size GA (.slice (some ⟨GB, 0, none⟩) ar ar) vs ar := ⟨hst, heap_old (cB.heap (cX.heap bA (fun x => x)) (fun x => x)), (((hcd.then cA).then cX).then cB).size, by rw [HGA.out]; exact hcd.size, fun k hk => by (have hk : some GB = some k := hk); injection hk with hk; rw [← hk]; exact Nat.le_trans ((hcd.then cA).then cX).size nB, hcz⟩
      go_simp
      have hSn := HSK.out _ hcz
      refine hK _ _ ⟨fun _ => hSn, ?_⟩
      clear hK K hS
      have hS := hSn
      clear hSn
      try simp only [Act.put, List.setIfInBounds_toArray, List.set_cons_succ, List.set_cons_zero]
      iterate 1 (refine tree_look rfl hS rfl (by intro w hS; obtain ⟨p0, p1⟩ := hS; go_simp; with_reducible rfl) (fun c a w h => h) ?_; simp only [Act.put, List.setIfInBounds_toArray, List.set_cons_succ, List.set_cons_zero])
      refine tree_end ?_
      refine hK' _ _ (Met.intro (hJ _ _ ?_))
      (repeat apply Exists.intro)
      refine ⟨?rel, rfl⟩
      case rel => exact ⟨_, GA, _, rfl, Lib.hid hbg⟩
    · go_simp
      obtain ⟨y1, hy1⟩ : ∃ z, z = wd.alloc (.cells #[.int .i64 (-1)] 3) := ⟨_, rfl⟩
      obtain ⟨GX, hGX⟩ : ∃ z, z = wd.heap.size := ⟨_, rfl⟩
      have cX : Chg (fun _ => False) wd y1 := by rw [hy1]; exact (Chg.refl _ _).alloc _
      have bX : y1.cell? ⟨GX, 0, none⟩ = some (.int .i64 (-1)) := by rw [hy1, cell_of_block (heap_new' hGX.symm) 0]; rfl
      rw [← hy1, ← hGX]
      clear hGX
      have hSn := HSK.out y1 (hcd.then cX)
      refine hK _ _ ⟨fun _ => hSn, ?_⟩
      clear hK K hS hy1
      have hS := hSn
      clear hSn
      try simp only [Act.put, List.setIfInBounds_toArray, List.set_cons_succ, List.set_cons_zero]
      refine tree_fork rfl rfl rfl rfl (fun K hK => ?_) (fun K hK => ?_)
      · go_simp
        obtain ⟨y2, hy2⟩ : ∃ z, z = y1.alloc (.cells (madeCells #[.int .i64 0] vs) 2) := ⟨_, rfl⟩
        obtain ⟨GA, hGA⟩ : ∃ z, z = y1.heap.size := ⟨_, rfl⟩
        have cA : Chg (fun _ => False) y1 y2 := by rw [hy2]; exact (Chg.refl _ _).alloc _
        have bA : y2.heap[GA]? = some (.cells (madeCells #[.int .i64 0] vs) 2 (0, 0)) := by rw [hy2]; exact heap_new' hGA.symm
        rw [← hy2, ← hGA]
        have HGA := Lib.hid hGA
        clear hGA
        have hSn := HSK.out y2 ((hcd.then cX).then cA)
        refine hK _ _ ⟨fun _ => hSn, ?_⟩
        clear hK K hS hy2
        have hS := hSn
        clear hSn
        try simp only [Act.put, List.setIfInBounds_toArray, List.set_cons_succ, List.set_cons_zero]
        refine tree_act rfl rfl (fun K hK => ?_)
        refine wp_call 60 _ _ Tryd.func60 rfl (by kernel_rfl) _ _ rfl #[.slice (some ⟨GX, 0, none⟩) 1 1, .int .i64 (ar : Int)] (by simp [Act.eval]) (R := fun v w' => ∃ G, v = .slice (some ⟨G, 0, none⟩) ar ar ∧ w'.ownsRow 0 3 1 (.slice (some ⟨G, 0, none⟩) ar ar) ar (nums (List.replicate ar (-1))) ∧ y2.heap.size ≤ G ∧ Chg (fun _ => False) y2 w') (calls_ret (repeat_any ar har (cA.cell bX (fun x => x))) (by rintro e w' ⟨G, rfl, h1, h2, h3⟩; exact ⟨_, rfl, G, rfl, h1, h2, h3⟩)) ?_
        rintro v y3 ⟨GB, rfl, oB, nB, cB⟩
        have hSn := HSK.out y3 (((hcd.then cX).then cA).then cB)
        refine hK _ _ ⟨fun _ => hSn, ?_⟩
        clear hK K hS
        have hS := hSn
        clear hSn
        try simp only [Act.put, List.setIfInBounds_toArray, List.set_cons_succ, List.set_cons_zero]
        iterate 1 (refine tree_look rfl hS rfl (by intro w hS; obtain ⟨p0, p1⟩ := hS; go_simp; with_reducible rfl) (fun c a w h => h) ?_; simp only [Act.put, List.setIfInBounds_toArray, List.set_cons_succ, List.set_cons_zero])
        refine tree_act rfl rfl (fun K hK => ?_)
        have hst := FSt.new (w := y3) (made_row (cB.heap bA (fun x => x)) hvs) (oB) (fun e => by have := lt_of_heap bA; omega)
        have hcz : Chg (fun _ => False) w0 (y3.alloc (.cells #[.slice (some ⟨GA, 0, none⟩) vs vs, .slice (some ⟨GB, 0, none⟩) ar ar, .slice none 0 0] 134)) := (((hcd.then cX).then cA).then cB).alloc _
        have hbg : Begun w0 (y3.alloc (.cells #[.slice (some ⟨GA, 0, none⟩) vs vs, .slice (some ⟨GB, 0, none⟩) ar ar, .slice none 0 0] 134)) y3.heap.size GA (.slice (some ⟨GB, 0, none⟩) ar ar) vs ar := ⟨hst, heap_old (cB.heap bA (fun x => x)), (((hcd.then cX).then cA).then cB).size, by rw [HGA.out]; exact (hcd.then cX).size, fun k hk => by (have hk : some GB = some k := hk); injection hk with hk; rw [← hk]; exact Nat.le_trans ((hcd.then cX).then cA).size nB, hcz⟩
        go_simp
        have hSn := HSK.out _ hcz
        refine hK _ _ ⟨fun _ => hSn, ?_⟩
        clear hK K hS
        have hS := hSn
        clear hSn
        try simp only [Act.put, List.setIfInBounds_toArray, List.set_cons_succ, List.set_cons_zero]
        iterate 1 (refine tree_look rfl hS rfl (by intro w hS; obtain ⟨p0, p1⟩ := hS; go_simp; with_reducible rfl) (fun c a w h => h) ?_; simp only [Act.put, List.setIfInBounds_toArray, List.set_cons_succ, List.set_cons_zero])
        refine tree_end ?_
        refine hK' _ _ (Met.intro (hJ _ _ ?_))
        (repeat apply Exists.intro)
        refine ⟨?rel, rfl⟩
        case rel => exact ⟨_, GA, _, rfl, Lib.hid hbg⟩
      · refine wp_call 60 _ _ Tryd.func60 rfl (by kernel_rfl) _ _ rfl #[.slice (some ⟨GX, 0, none⟩) 1 1, .int .i64 (ar : Int)] (by simp [Act.eval]) (R := fun v w' => ∃ G, v = .slice (some ⟨G, 0, none⟩) ar ar ∧ w'.ownsRow 0 3 1 (.slice (some ⟨G, 0, none⟩) ar ar) ar (nums (List.replicate ar (-1))) ∧ y1.heap.size ≤ G ∧ Chg (fun _ => False) y1 w') (calls_ret (repeat_any ar har bX) (by rintro e w' ⟨G, rfl, h1, h2, h3⟩; exact ⟨_, rfl, G, rfl, h1, h2, h3⟩)) ?_
        rintro v y2 ⟨GB, rfl, oB, nB, cB⟩
        have hSn := HSK.out y2 ((hcd.then cX).then cB)
        refine hK _ _ ⟨fun _ => hSn, ?_⟩
        clear hK K hS
        have hS := hSn
        clear hSn
        try simp only [Act.put, List.setIfInBounds_toArray, List.set_cons_succ, List.set_cons_zero]
        refine tree_act rfl rfl (fun K hK => ?_)
        go_simp
        obtain ⟨y3, hy3⟩ : ∃ z, z = y2.alloc (.cells (madeCells #[.int .i64 0] vs) 2) := ⟨_, rfl⟩
        obtain ⟨GA, hGA⟩ : ∃ z, z = y2.heap.size := ⟨_, rfl⟩
        have cA : Chg (fun _ => False) y2 y3 := by rw [hy3]; exact (Chg.refl _ _).alloc _
        have bA : y3.heap[GA]? = some (.cells (madeCells #[.int .i64 0] vs) 2 (0, 0)) := by rw [hy3]; exact heap_new' hGA.symm
        rw [← hy3, ← hGA]
        have HGA := Lib.hid hGA
        clear hGA
        have hSn := HSK.out y3 (((hcd.then cX).then cB).then cA)
        refine hK _ _ ⟨fun _ => hSn, ?_⟩
        clear hK K hS hy3
        have hS := hSn
        clear hSn
        try simp only [Act.put, List.setIfInBounds_toArray, List.set_cons_succ, List.set_cons_zero]
        iterate 1 (refine tree_look rfl hS rfl (by intro w hS; obtain ⟨p0, p1⟩ := hS; go_simp; with_reducible rfl) (fun c a w h => h) ?_; simp only [Act.put, List.setIfInBounds_toArray, List.set_cons_succ, List.set_cons_zero])
        refine tree_act rfl rfl (fun K hK => ?_)
        have hst := FSt.new (w := y3) (made_row (bA) hvs) (ownsRow_kept oB cA (fun _ _ x => x)) (fun e => by have := ownsRow_lt oB GB rfl; have h9 := HGA.out; omega)
        have hcz : Chg (fun _ => False) w0 (y3.alloc (.cells #[.slice (some ⟨GA, 0, none⟩) vs vs, .slice (some ⟨GB, 0, none⟩) ar ar, .slice none 0 0] 134)) := (((hcd.then cX).then cB).then cA).alloc _
        have hbg : Begun w0 (y3.alloc (.cells #[.slice (some ⟨GA, 0, none⟩) vs vs, .slice (some ⟨GB, 0, none⟩) ar ar, .slice none 0 0] 134)) y3.heap.size GA (.slice (some ⟨GB, 0, none⟩) ar ar) vs ar := ⟨hst, heap_old (bA), (((hcd.then cX).then cB).then cA).size, by rw [HGA.out]; exact ((hcd.then cX).then cB).size, fun k hk => by (have hk : some GB = some k := hk); injection hk with hk; rw [← hk]; exact Nat.le_trans (hcd.then cX).size nB, hcz⟩
        go_simp
        have hSn := HSK.out _ hcz
        refine hK _ _ ⟨fun _ => hSn, ?_⟩
        clear hK K hS
        have hS := hSn
        clear hSn
        try simp only [Act.put, List.setIfInBounds_toArray, List.set_cons_succ, List.set_cons_zero]
        iterate 1 (refine tree_look rfl hS rfl (by intro w hS; obtain ⟨p0, p1⟩ := hS; go_simp; with_reducible rfl) (fun c a w h => h) ?_; simp only [Act.put, List.setIfInBounds_toArray, List.set_cons_succ, List.set_cons_zero])
        refine tree_end ?_
        refine hK' _ _ (Met.intro (hJ _ _ ?_))
        (repeat apply Exists.intro)
        refine ⟨?rel, rfl⟩
        case rel => exact ⟨_, GA, _, rfl, Lib.hid hbg⟩
  obtain ⟨F, GA, VB, rfl, HBG⟩ := hcut
  have hbg := HBG.out
  have hA2 := (HA.out.keptX HC0.out (fun _ _ x => x)).keptX hbg.chg (fun _ _ x => x)
  obtain ⟨w3, hcp, hst3, hc3⟩ := hbg.st.args hbg.made hA2 hale
  have s0 := cell_of_block hbg.st.box 0
  simp at s0
  have hcw : Chg (fun k => w.heap.size ≤ k) w w3 := ((HC0.out.then hbg.chg).mono (fun _ _ x => x.elim)).then (hc3.mono (fun k _ e => by have e : k = GA := e; rw [e]; exact Nat.le_trans HC0.out.size hbg.na))
  obtain ⟨Y3, hms3, hgr3⟩ := ms_start HM.out hcw hst3 (Nat.le_trans HC0.out.size hbg.nf) (fun k hk => by (have hk : some GA = some k := hk); injection hk with hk; rw [← hk]; exact Nat.le_trans HC0.out.size hbg.na) (fun k hk => Nat.le_trans HC0.out.size (hbg.nb k hk)) (fun k hk => by cases hk)
  have hinv0 := RInv.start (d := d) HTY.out.1 (HCC.out.fn HF.out).2.1 HG.out HX.out.2.2.1 HX.out.2.2.2 hale
  have HMS := Lib.hid hms3
  have HGR := Lib.hid hgr3
  have HINV := Lib.hid hinv0
  obtain ⟨L3, hL3⟩ : ∃ L3, L3 = args.length := ⟨_, rfl⟩
  rw [← hL3] at hcp
  clear hms3 hgr3 hinv0 hcw hc3 hst3 hbg hA2 HBG HC0 HWE HSK hL3
  go_wp2_with fail
  go_step3
  go_wp2_with fail
  go_loopg [14] (g.fuel - g.now).toNat (fun μ' at_ wr => ∃ (p : Nat) (X' Y' : Nat → Prop) (vars arrs stack : List Int) (g' : GS), at_ = .int .i64 (p : Int) ∧ μ' = (g'.fuel - g'.now).toNat ∧ Hid (RInv fs fn fs[fn] args d g p vars arrs stack g') ∧ Hid (Ms W0 wr X' Y' m (.slice (some ⟨b, off, none⟩) fs.length cap) d g' F vars arrs stack) ∧ Hid (Gr w X (fun k => w.heap.size ≤ k) wr X' Y'))
  case atStart => exact ⟨0, X, Y3, _, _, _, g, rfl, rfl, HINV, HMS, HGR⟩
  case round =>
    obtain ⟨p, X1, Y1, vars, arrs, stack, g1, rfl, hmu, HINV1, HMS1, HGR1⟩ := hrel
    have HMU1 := Lib.hid hmu
    clear hmu HINV HMS HGR
    have hat := HINV1.out.at HCC.out.code (HCC.out.fn HF.out).2.1
    obtain ⟨i, hi⟩ : ∃ i, fs[fn].l.getD p noIns = i := ⟨_, rfl⟩
    rw [hi] at hat
    have hpl := hat.lt
    have hkn := opOk_known hat.ok
    have hsr2 : Src wr (.slice B fs[fn].l.length c) fs[fn].l.length (insCells fs[fn].l) := by
      have h := HSRC.out.keepB HMS1.out.bel
      rw [HN.out] at h
      exact h
    obtain ⟨bb, ob, cb, e, hbs, hcap5, k0, k1, k2⟩ := hsr2.get p hpl
    injection e with e1 e2 e3
    subst e1 e3
    have hie : fs[fn].l[p] = i := by have h := hat.ins; rw [List.getElem?_eq_getElem hpl] at h; injection h
    rw [hie] at k0 k1 k2
    have hp20 : p < 1048576 := Nat.lt_of_lt_of_le hpl HLEN.out
    have hpl : p < n := Nat.lt_of_lt_of_le hpl (Nat.le_of_eq HN.out.symm)
    have hcap5 : n ≤ c := Nat.le_trans (Nat.le_of_eq HN.out) hcap5
    obtain ⟨op, a, z⟩ := i
    simp only at k0 k1 k2 hkn
    have hiv : InsR.agg ⟨op, a, z⟩ = .agg #[.int .i64 op, .int .i64 a, .int .i64 z] := rfl
    obtain ⟨wx, hwx⟩ : ∃ wx, wx = wr.alloc (.cells #[.int .i64 op, .int .i64 a, .int .i64 z] 44) := ⟨_, rfl⟩
    obtain ⟨PB, hPB⟩ : ∃ PB, PB = wr.heap.size := ⟨_, rfl⟩
    have hcx : Chg (fun _ => False) wr wx := by rw [hwx]; exact (Chg.refl _ _).alloc _
    have hib : wx.heap[PB]? = some (.cells #[.int .i64 op, .int .i64 a, .int .i64 z] 44 (0, 0)) := by rw [hwx]; exact heap_new' hPB.symm
    obtain ⟨hmx, hgx⟩ := HMS1.out.still hcx
    have hPX : ¬ X1 PB := fun h => by have := (HMS1.out.lx _ h).2; omega
    have hPY : ¬ Y1 PB := fun h => by have := (HMS1.out.ly _ h).2; omega
    have hYF : Y1 F := by obtain ⟨_, _, _, _, h, _⟩ := HMS1.out.fi; exact h
    have hPF : PB ≠ F := fun h => hPY (by rw [h]; exact hYF)
    have HWX := Lib.hid (And.intro hwx hPB)
    have HMX := Lib.hid hmx
    have HGX := Lib.hid (HGR1.out.trans hgx)
    have HIB := Lib.hid hib
    have HAT := Lib.hid hat
    have HP := Lib.hid (And.intro hPX (And.intro hPY (And.intro hYF hPF)))
    clear hat hi hie hsr2 hwx hPB hcx hib hmx hgx hPX hPY hYF hPF hiv hbs
    go_upto_region 7 with fail
    rw [← HWX.out.1, ← HWX.out.2]
    clear k0 k1 k2 hcap5 hpl
    obtain ⟨wd, hwd⟩ : ∃ wd, wd = wx.drew := ⟨_, rfl⟩
    have hcd : Chg (fun _ => False) wx wd := by rw [hwd]; exact (Chg.refl _ _).drew
    obtain ⟨hmd, hgd⟩ := HMX.out.still hcd
    have hibd := hcd.heap HIB.out (fun x => x)
    obtain ⟨mt, hp_, Sh, I0, I1, P, KV, CV, hst, hin, cm⟩ := hmd.open
    have i0 := cell_of_block hibd 0
    simp at i0
    have hS : wd.cell? ⟨m, 0, none⟩ = some (.pointer (some ⟨mt, 0, none⟩)) ∧ wd.cell? ⟨PB, 0, none⟩ = some (.int .i64 op) := ⟨cm, i0⟩
    obtain ⟨E, hE⟩ : ∃ E : Int, E = if g1.fuel < g1.now + costv op then 8 else 0 := ⟨_, rfl⟩
    have HE := Lib.hid hE
    have CC := Lib.hid (cost_any (w := wd) (HCC.out.sorts.keep hmd.bel) op hkn)
    have HMD := Lib.hid hmd
    have HGD := Lib.hid (HGX.out.trans hgd)
    have HST := Lib.hid hst
    have HIN := Lib.hid hin
    have HIBD := Lib.hid hibd
    have HKN := Lib.hid hkn
    refine wp_region_ord (S := fun w' => w'.cell? ⟨m, 0, none⟩ = some (.pointer (some ⟨mt, 0, none⟩)) ∧ w'.cell? ⟨PB, 0, none⟩ = some (.int .i64 op)) (N := fun i => i != 8) (by kernel_rfl) [(0, true), (1, true), (2, true), (3, true), (4, true), (5, true), (6, true), (7, false), (8, false), (9, true)] (by kernel_rfl) ?_
    rw [← hwd]
    clear hwd hcd hmd hgd hibd hst hin cm i0 hE hkn
    iterate 7 (refine ord_look rfl hS rfl (by intro w hS; obtain ⟨p0, p1⟩ := hS; go_simp; with_reducible rfl) (fun c a w h => h) ?_; simp only [Act.put, List.setIfInBounds_toArray, List.set_cons_succ, List.set_cons_zero])
    refine ord_act rfl rfl (fun K hK => ?_)
    refine wp_callv 33 _ _ Tryd.func33 rfl (by kernel_rfl) _ _ _ rfl rfl #[.int .i64 op] (by simp [Act.eval]) (R := fun v w' => v = .int .i64 (costv op) ∧ Below wd.heap.size wd w') (calls_ret CC.out (by rintro e w' ⟨rfl, h⟩; exact ⟨_, rfl, rfl, h⟩)) ?_
    rintro v w1 ⟨rfl, hb1⟩
    have hc1 := Below.chg hb1
    have hS1 : w1.cell? ⟨m, 0, none⟩ = some (.pointer (some ⟨mt, 0, none⟩)) ∧ w1.cell? ⟨PB, 0, none⟩ = some (.int .i64 op) := ⟨hc1.cell hS.1 (fun x => x), hc1.cell hS.2 (fun x => x)⟩
    obtain ⟨hm1, hg1⟩ := HMD.out.still hc1
    have hst1 := HST.out.kept hc1 HIN.out (fun _ _ x => x)
    have hib1 := hc1.heap HIBD.out (fun x => x)
    have hcs := cost_small HKN.out
    have CH := Lib.hid (charge_any hst1.met HINV1.out.ok.ok.n0 HINV1.out.ok.ok.nf (by have := HINV1.out.ok.ok.fm; omega) (c := costv op) (by omega) (by omega))
    rw [← HE.out] at CH
    have HM1 := Lib.hid hm1
    have HG1 := Lib.hid (HGD.out.trans hg1)
    have HST1 := Lib.hid hst1
    have HIB1 := Lib.hid hib1
    refine hK _ _ ⟨fun _ => hS1, ?_⟩
    clear hK K hS hb1 hc1 hm1 hg1 hst1 hib1 hcs CC
    have hS := hS1
    clear hS1
    try simp only [Act.put, List.setIfInBounds_toArray, List.set_cons_succ, List.set_cons_zero]
    refine ord_act rfl rfl (fun K hK => ?_)
    refine wp_call 35 _ _ Tryd.func35 rfl (by kernel_rfl) _ _ rfl #[.pointer (some ⟨mt, 0, none⟩), .int .i64 (costv op)] (by simp [Act.eval]) (R := fun v w' => v = .int .i64 E ∧ MetIs w' mt (g1.now + costv op) g1.fuel ∧ Chg (fun k => k = mt) w1 w') (calls_ret CH.out (by rintro e w' ⟨rfl, h⟩; exact ⟨_, rfl, rfl, h⟩)) ?_
    rintro v w2 ⟨rfl, hmet, hc2⟩
    obtain ⟨X2, hm2, hg2⟩ := HM1.out.paid HST1.out HIN.out ⟨op, a, z⟩ hc2 hmet
    have hib2 := hc2.heap HIB1.out (fun e => HP.out.1 (by have e : PB = mt := e; rw [e]; exact HIN.out.mt))
    have HM2 := Lib.hid hm2
    have HG2 := Lib.hid (HG1.out.trans hg2)
    have HIB2 := Lib.hid hib2
    have hSn : w2.cell? ⟨m, 0, none⟩ = some (.pointer (some ⟨mt, 0, none⟩)) ∧ w2.cell? ⟨PB, 0, none⟩ = some (.int .i64 op) := ⟨hc2.cell hS.1 (fun e => HST1.out.mm e), by have h := cell_of_block hib2 0; simpa using h⟩
    refine hK _ _ ⟨(fun h => by cases h), ?_⟩
    clear hK K hS hm2 hg2 hib2 hmet hc2 CH
    have hS := hSn
    clear hSn
    try simp only [Act.put, List.setIfInBounds_toArray, List.set_cons_succ, List.set_cons_zero]
    iterate 1 (refine ord_look rfl hS rfl (by intro w hS; obtain ⟨p0, p1⟩ := hS; go_simp; with_reducible rfl) (fun c a w h => h) ?_; simp only [Act.put, List.setIfInBounds_toArray, List.set_cons_succ, List.set_cons_zero])
    refine ord_end ?_
    have i0 := hS.2
    have i1 := cell_of_block HIB2.out 1
    have i2 := cell_of_block HIB2.out 2
    simp at i1 i2
    clear hS
    have hinv := HINV1.out
    have hfn := HTY.out.1
    have hato := HAT.out
    have hko := HKN.out
    have hsl : stack.length ≤ 1048576 := by have := hinv.sl; have := hinv.ok.ok.nf; have := hinv.ok.ok.fm; omega
    by_cases hov : (Go.Proofs.YtdpimkbdieafgaaDoor.paid g1 ⟨op, a, z⟩).fuel < (Go.Proofs.YtdpimkbdieafgaaDoor.paid g1 ⟨op, a, z⟩).now
    · obtain rfl : E = 8 := by rw [HE.out]; exact if_pos hov
      have HF := Lib.hid (hinv.over hfn hato hov)
      clear hinv hfn hato hko hsl hov
      go_wp2_with fail
      try rw [Exit.noGoto_ret]
      go_ret2
      exact run_end HM2.out HG2.out HF.out (fun h => by cases h)
    obtain rfl : E = 0 := by rw [HE.out]; exact if_neg hov
    have HOV := Lib.hid hov
    obtain ⟨gl, _, gm, _⟩ := gle_paid hinv.ok hko hov
    have hin := HINV1.out.ok
    have gm2 : ((Go.Proofs.YtdpimkbdieafgaaDoor.paid g1 ⟨op, a, z⟩).fuel - (Go.Proofs.YtdpimkbdieafgaaDoor.paid g1 ⟨op, a, z⟩).now).toNat < μ := by
      have := HMU.out
      have := hin.now
      have := hin.fuel
      omega
    have HGL := Lib.hid (And.intro gl (And.intro gm gm2))
    have hcs : op = 18 ∨ op = 16 ∨ op = 15 ∨ op = 17 ∨ (op ≠ 15 ∧ op ≠ 16 ∧ op ≠ 17 ∧ op ≠ 18) := by omega
    clear gl gm gm2 hin hov
    rcases hcs with rfl | rfl | rfl | rfl | hnc
    · -- return
      have ht : takesv 18 ≤ (stack.length : Int) := by rw [← hato.plain (by show (18 : Int) ≠ 17; decide)]; exact hato.takes.1
      have ht : (1 : Int) ≤ (stack.length : Int) := ht
      obtain ⟨s, y, rfl⟩ := snoc_of (l := stack) (by omega)
      have CP := Lib.hid (pop_any HM2.out.fi (by simp at hsl; omega))
      have HF := Lib.hid (hinv.ret hfn hato (by have := HOV.out; omega) rfl rfl)
      clear hinv hfn hato hko hsl ht
      go_wp2_with fail
      refine CP.out.mono ?_; rintro e w3 ⟨rfl, hf3, hc3⟩
      obtain ⟨Y3, hm3, hg3⟩ := HM2.out.frame (hf3.mono (fun k hk _ => .inl hk)) (hc3.mono (fun k _ e => by have e : k = F := e; rw [e]; exact HP.out.2.2.1))
      have HM3 := Lib.hid hm3
      have HG3 := Lib.hid (HG2.out.trans hg3)
      clear hf3 hc3 hm3 hg3 CP i0 i1 i2
      go_wp2_with fail
      try rw [Exit.noGoto_ret]
      go_ret2
      exact run_end HM3.out HG3.out HF.out (fun _ => HGL.out.1)
    · -- jump at nought
      have ht : takesv 16 ≤ (stack.length : Int) := by rw [← hato.plain (by show (16 : Int) ≠ 17; decide)]; exact hato.takes.1
      have ht : (1 : Int) ≤ (stack.length : Int) := ht
      obtain ⟨s, y, rfl⟩ := snoc_of (l := stack) (by omega)
      have CP := Lib.hid (pop_any HM2.out.fi (by simp at hsl; omega))
      have HINV := Lib.hid hinv
      clear hinv hfn hato hko hsl ht
      go_wp2_with fail
      refine CP.out.mono ?_; rintro e w3 ⟨rfl, hf3, hc3⟩
      obtain ⟨Y3, hm3, hg3⟩ := HM2.out.frame (hf3.mono (fun k hk _ => .inl hk)) (hc3.mono (fun k _ e => by have e : k = F := e; rw [e]; exact HP.out.2.2.1))
      have HM3 := Lib.hid hm3
      have HG3 := Lib.hid (HG2.out.trans hg3)
      have j1 := hc3.cell i1 HP.out.2.2.2
      clear hf3 hc3 hm3 hg3 CP i0 i1 i2
      by_cases hy : y = 0
      · obtain rfl := hy
        have HI := Lib.hid (HINV.out.jz HTY.out.1 HAT.out (by have := HOV.out; omega) rfl rfl)
        go_wp2_with fail
        try rw [Exit.noGoto_normal]
        go_roundg ((Go.Proofs.YtdpimkbdieafgaaDoor.paid g1 ⟨16, a, z⟩).fuel - (Go.Proofs.YtdpimkbdieafgaaDoor.paid g1 ⟨16, a, z⟩).now).toNat
        case measure => rw [HMU1.out]; exact HGL.out.2.1
        case rel => exact ⟨a.toNat, _, _, _, _, _, _, by rw [HI.out.2], rfl, Lib.hid HI.out.1, HM3, HG3⟩
      · have HI := Lib.hid (HINV.out.jn HTY.out.1 HAT.out (by have := HOV.out; omega) rfl rfl hy)
        go_wp2_with fail
        try rw [Exit.noGoto_normal]
        go_roundg ((Go.Proofs.YtdpimkbdieafgaaDoor.paid g1 ⟨16, a, z⟩).fuel - (Go.Proofs.YtdpimkbdieafgaaDoor.paid g1 ⟨16, a, z⟩).now).toNat
        case measure => rw [HMU1.out]; exact HGL.out.2.1
        case rel => exact ⟨p + 1, _, _, _, _, _, _, by go_num, rfl, HI, HM3, HG3⟩
    · -- jump
      have HI := Lib.hid (hinv.jmp hfn hato (by have := HOV.out; omega) rfl)
      clear hinv hfn hato hko hsl
      go_wp2_with fail
      try rw [Exit.noGoto_normal]
      go_roundg ((Go.Proofs.YtdpimkbdieafgaaDoor.paid g1 ⟨15, a, z⟩).fuel - (Go.Proofs.YtdpimkbdieafgaaDoor.paid g1 ⟨15, a, z⟩).now).toNat
      case measure => rw [HMU1.out]; exact HGL.out.2.1
      case rel => exact ⟨a.toNat, _, _, _, _, _, _, by rw [HI.out.2], rfl, Lib.hid HI.out.1, HM2, HG2⟩
    · -- call
      obtain ⟨⟨ha1, ha2⟩, hps⟩ := hato.call rfl
      simp only at ha1 ha2 hps
      obtain ⟨fn', rfl⟩ : ∃ fn' : Nat, a = (fn' : Int) := ⟨a.toNat, by omega⟩
      have hf' : fn' < fs.length := by omega
      have ht := hato.takes
      rw [hps] at ht
      simp only [Int.toNat_natCast] at ht hps
      have hgd' := (HCC.out.fn hf').1
      rw [hgd'] at ht
      obtain ⟨pp, hpp⟩ : ∃ pp : Nat, (pp : Int) = (stack.length : Int) - fs[fn'].ps := ⟨((stack.length : Int) - fs[fn'].ps).toNat, by omega⟩
      have CD := Lib.hid (does_call (f := ⟨fn, p + 1, vars, arrs, stack⟩) HM2.out HCC.out HHH.out HGL.out.1.ok HGL.out.2.2 fn' z hf' HD.out.2 pp hpp ht.2 hsl)
      have HPP := Lib.hid (And.intro hpp hgd')
      clear hinv hfn hato hko hsl ha1 ha2 hps ht hpp hgd'
      go_wp2_with fail
      refine CD.out.mono ?_; rintro e w3 ⟨X3, Y3, n3, e3, g3, rfl, hm3, hg3, hco, hgl3⟩
      have HI := Lib.hid (HINV1.out.call HTY.out.1 HAT.out (by have := HOV.out; omega) rfl (pp := pp) (by simp only [Int.toNat_natCast]; rw [HPP.out.2]; exact HPP.out.1) (by simp only [Int.toNat_natCast]; exact hco) hgl3)
      have HM3 := Lib.hid hm3
      have HG3 := Lib.hid (HG2.out.trans hg3)
      have HGL3 := Lib.hid hgl3
      clear hm3 hg3 hco hgl3 CD i0 i1 i2
      by_cases hy : e3 = 0
      · obtain rfl := hy
        go_wp2_with fail
        try rw [Exit.noGoto_normal]
        go_roundg (g3.fuel - g3.now).toNat
        case measure =>
          have h1 := HGL3.out (by first | rfl | trivial)
          have h2 := h1.now
          have h3 := h1.fuel
          have h4 := HGL.out.2.1
          rw [HMU1.out]
          omega
        case rel => exact ⟨p + 1, _, _, _, _, _, _, by go_num, rfl, Lib.hid (HI.out.1 (by first | rfl | trivial)), HM3, HG3⟩
      · go_wp2_with fail
        try rw [Exit.noGoto_ret]
        go_ret2
        exact run_end HM3.out HG3.out (HI.out.2 hy) (fun h => absurd h hy)
    · -- another
      have ht : takesv op ≤ (stack.length : Int) := by rw [← hato.plain hnc.2.2.1]; exact hato.takes.1
      have hpg := hinv.ok.ok
      have hp1 := hpg.pr
      have hp2 := hpg.ke
      have hp3 := hpg.cl
      have hp4 := hpg.nf
      have hp5 := hpg.fm
      have hh := ((HCC.out.fn HF.out).2.1).1
      have CD := Lib.hid (does_any (f := ⟨fn, p + 1, vars, arrs, stack⟩) HM2.out HCC.out.sorts ⟨op, a, z⟩ hato.ok hinv.vl hinv.al (by have := hh.2.2.1; omega) (by have := hh.2.2.2; omega) ht hnc hsl (by show g1.pr.length ≤ _; omega) (by show g1.ke.length ≤ _; omega) (by show g1.cl.length ≤ _; omega))
      have HI := Lib.hid (hinv.does hfn hato (by have := HOV.out; omega) hnc rfl)
      unfold DoesP at CD
      obtain ⟨r, hr⟩ : ∃ r, doesv ⟨op, a, z⟩ ⟨fn, p + 1, vars, arrs, stack⟩ (Go.Proofs.YtdpimkbdieafgaaDoor.paid g1 ⟨op, a, z⟩) = r := ⟨_, rfl⟩
      rw [hr] at CD HI
      have hgd := gle_does hinv.ok hko (by have := HOV.out; omega) ⟨fn, p + 1, vars, arrs, stack⟩
      have hkp := doesv_kept ⟨op, a, z⟩ ⟨fn, p + 1, vars, arrs, stack⟩ (Go.Proofs.YtdpimkbdieafgaaDoor.paid g1 ⟨op, a, z⟩)
      rw [hr] at hgd hkp
      have HKP := Lib.hid (And.intro hgd hkp)
      clear hinv hfn hato hko hsl ht hpg hp1 hp2 hp3 hp4 hp5 hh hr hgd hkp
      unfold InsR.agg at CD
      simp only at CD
      obtain ⟨n1, n2, n3, n4⟩ := hnc
      go_wp2_with fail
      refine CD.out.mono ?_; rintro e w3 ⟨X3, Y3, vars3, arrs3, stack3, rfl, hm3, hg3, he3⟩
      have HM3 := Lib.hid hm3
      have HG3 := Lib.hid (HG2.out.trans hg3)
      have HE3 := Lib.hid he3
      clear hm3 hg3 he3 CD i0 i1 i2
      obtain ⟨er, fr, gr⟩ := r
      simp only at HM3 HE3 HI HKP ⊢
      by_cases hy : er = 0
      · obtain rfl := hy
        obtain ⟨rfl, rfl, rfl⟩ := HE3.out (by first | rfl | trivial)
        go_wp2_with fail
        try rw [Exit.noGoto_normal]
        go_roundg (gr.fuel - gr.now).toNat
        case measure =>
          have h2 := HKP.out.2.now
          have h3 := HKP.out.2.fuel
          have h4 := HGL.out.2.1
          rw [HMU1.out, h2, h3]
          exact h4
        case rel => exact ⟨p + 1, _, _, _, _, _, _, by go_num, rfl, Lib.hid (HI.out.1 (by first | rfl | trivial)), HM3, HG3⟩
      · go_wp2_with fail
        try rw [Exit.noGoto_ret]
        go_ret2
        exact run_end HM3.out HG3.out (HI.out.2 hy) (fun h => absurd h hy)
end Go.Proofs.YtdpimkbdieafgaaDoor
