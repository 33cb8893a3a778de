/- LabelPublic: names and expressions made small, walked. -/
import Derived.Test.YtnpmgnfohaeonaaLabPub1
import Derived.Test.YtnpmgnfohaeonaaLabApp
import Derived.Test.YtnpmgnfohaeonaaLabPl
import Derived.Deep.CutBlock
namespace Go.Proofs.Ytnpmgnfohaeonaa
set_option linter.unusedVariables false
set_option linter.unusedSimpArgs false
open Go.ChangeShapes Go.WideShapes Go.ChangeAt Go.RowKit

set_option maxHeartbeats 400000 in
set_option maxRecDepth 100000 in
theorem small_any (s : ByteArray) (hs : s.size ≤ 140737488351232) (w : World) : Calls Try.prog 16 #[.string s] w fun e w' => e = .returned (.string (smallN s)) ∧ w' = w := by
  go_enter Try.func16, Try.ntmps16
  go_wp2_with fail
  rw [smallN_eq]
  go_ret
  exact ⟨rfl, rfl⟩
/- expressions -/
theorem infoExpr : (Try.prog.info? 28).map (fun i => (i.zero, i.size, i.bytes)) = some (some (.agg #[.int .i64 0, .int .i64 0, .string ByteArray.empty, .slice none 0 0]), 4, 56) := by kernel_rfl
set_option maxHeartbeats 8000000 in
set_option maxRecDepth 100000 in
theorem smallExpr_any (d : Nat) : d ≤ 1000 → ∀ (t : ExprT) (w : World) (X : Nat → Prop) (cs : List Value), IsExpr w X t cs → SmN t →
    Calls Try.prog 27 #[.agg cs.toArray, .int .i64 d] w fun e w' => ∃ (a b : Int) (s : ByteArray) (A : Option Addr) (k c : Nat), e = .returned (.agg #[.int .i64 a, .int .i64 b, .string s, .slice A k c]) ∧ IsExpr w' (fun k => w.heap.size ≤ k ∧ k < w'.heap.size) (smallE d t) [.int .i64 a, .int .i64 b, .string s, .slice A k c] ∧ Below w.heap.size w w' := by
  induction d using Nat.strongRecOn with
  | ind d ih =>
    intro hd t w X cs ht hsm
    cases ht with
    | mk op n nm l A c f hnm hr hel =>
    have HE : Hid (Exprs w X A c l) := Lib.hid ⟨f, hr, hel⟩
    obtain ⟨hnm, hlb, hsl⟩ : nm.size ≤ 140737488351232 ∧ l.length * 56 ≤ 140737488351232 ∧ ∀ (j : Nat) (t : ExprT), l[j]? = some t → SmN t := by cases hsm with
      | mk _ _ _ _ h0 h1 h2 => exact ⟨h0, h1, h2⟩
    have HSL := Lib.hid hsl
    have HNM := Lib.hid hnm
    rw [smallE_eq]
    obtain ⟨tf, htf⟩ : ∃ tf, (if d = 0 then [] else l.map (smallE (d - 1))) = tf := ⟨_, rfl⟩
    rw [htf]
    have HTF := Lib.hid htf
    clear htf
    obtain ⟨m, hm⟩ : ∃ m, m = l.length := ⟨_, rfl⟩
    rw [← hm] at hlb ⊢
    have HM := Lib.hid hm
    obtain ⟨dd, hdd⟩ : ∃ dd : Int, dd = (d : Int) := ⟨_, rfl⟩
    rw [← hdd]
    have hd0 : 0 ≤ dd ∧ dd ≤ 1000 := by omega
    obtain ⟨hd0, hd1⟩ := hd0
    have HIH : Hid (∀ (t : ExprT) (w : World) (X : Nat → Prop) (cs : List Value), 0 < dd → IsExpr w X t cs → SmN t →
        Calls Try.prog 27 #[.agg cs.toArray, .int .i64 (dd - 1)] w fun e w' => ∃ (a b : Int) (s : ByteArray) (A : Option Addr) (k c : Nat), e = .returned (.agg #[.int .i64 a, .int .i64 b, .string s, .slice A k c]) ∧ IsExpr w' (fun k => w.heap.size ≤ k ∧ k < w'.heap.size) (smallE (d - 1) t) [.int .i64 a, .int .i64 b, .string s, .slice A k c] ∧ Below w.heap.size w w') := Lib.hid (fun t w X cs h0 h1 h2 => by
      have := ih (d - 1) (by omega) (by omega) t w X cs h1 h2
      rwa [show ((d - 1 : Nat) : Int) = dd - 1 by omega] at this)
    have HDD := Lib.hid hdd
    clear ih hd hr hel hsm hsl hnm hm hdd
    show Calls Try.prog 27 #[.agg #[.int .i64 op, .int .i64 n, .string nm, .slice A m c], .int .i64 dd] w _
    obtain ⟨b0, hb0⟩ : ∃ b0, b0 = w.heap.size := ⟨_, rfl⟩
    obtain ⟨wz, hwz⟩ : ∃ wz, wz = (w.alloc (.cells #[.int .i64 op, .int .i64 n, .string nm, .slice A m c] 28)).alloc (.cells #[.int .i64 0, .int .i64 0, .string ⟨#[]⟩, .slice none 0 0] 28) := ⟨_, rfl⟩
    go_enter Try.func27, Try.ntmps27
    go_upto_region 1 with fail
    rw [← hb0, ← hwz]
    have hbz : wz.heap[b0]? = some (.cells #[.int .i64 op, .int .i64 n, .string nm, .slice A m c] 28 (0, 0)) := by rw [hwz, hb0]; exact heap_old (heap_new _ _)
    have hrz : wz.heap[b0 + 1]? = some (.cells #[.int .i64 0, .int .i64 0, .string ⟨#[]⟩, .slice none 0 0] 28 (0, 0)) := by rw [hwz, hb0]; exact heap_new' (by simp)
    have hbe : Below w.heap.size w wz := by rw [hwz]; exact ((Below.refl _ w).alloc (Nat.le_refl _) _).alloc (by simp) _
    have hsz : wz.heap.size = b0 + 1 + 1 := by rw [hwz, hb0]; simp
    clear hwz
    have HBE := Lib.hid hbe
    have HW := Lib.hid hb0
    clear hb0 hbe
    have SCX : Hid (∀ wx : World, wx.heap[b0]? = some (.cells #[.int .i64 op, .int .i64 n, .string nm, .slice A m c] 28 (0, 0)) → wx.cell? ⟨b0, 0, none⟩ = some (.int .i64 op) ∧ wx.cell? ⟨b0, 1, none⟩ = some (.int .i64 n) ∧ wx.cell? ⟨b0, 2, none⟩ = some (.string nm)) := Lib.hid (fun wx h => ⟨cell_of_block h 0, cell_of_block h 1, cell_of_block h 2⟩)
    go_cut [5] from 8 to 15 (fun v wx => v = .pointer (some ⟨b0 + 1 + 1, 0, none⟩) ∧ Hid (wx.heap[b0 + 1 + 1]? = some (.cells #[.int .i64 op, .int .i64 n, .string (smallN nm), .slice none 0 0] 28 (0, 0)) ∧ Below wz.heap.size wz wx))
    case first =>
      obtain ⟨wd, hwd⟩ : ∃ wd, wd = wz.drew := ⟨_, rfl⟩
      have hb : Below wz.heap.size wz wd := by rw [hwd]; exact (Below.refl _ _).drew
      have hpb : wd.heap.size = b0 + 1 + 1 := by rw [hwd]; exact hsz
      have hS : wd.heap[b0]? = some (.cells #[.int .i64 op, .int .i64 n, .string nm, .slice A m c] 28 (0, 0)) := (Below.chg hb).heap hbz (fun x => x)
      refine wp_region_tree (S := fun w' => w'.heap[b0]? = some (.cells #[.int .i64 op, .int .i64 n, .string nm, .slice A m c] 28 (0, 0))) (N := fun i => true) (by kernel_rfl) (.look 0 (.look 1 (.look 2 (.look 3 (.look 4 (.look 5 (.fork 6 (.look 7 (.act 8 (.act 9 .done))) 8 (.act 6 (.look 7 (.act 9 .done)))))))))) (by kernel_rfl) ?_
      rw [← hwd]
      clear hwd
      iterate 6 (refine tree_look rfl hS rfl (by intro w hS; obtain ⟨p0, p1, p2⟩ := SCX.out w hS; go_simp; with_reducible rfl) (fun c a w h => h) ?_; try simp only [Act.put, List.setIfInBounds_toArray, List.set_cons_succ, List.set_cons_zero])
      refine tree_fork rfl rfl rfl rfl (fun K hK => ?_) (fun K hK => ?_)
      · skip
        refine wp_call 16 _ _ Try.func16 rfl (by kernel_rfl) _ _ rfl #[.string nm] (by simp [Act.eval]) (R := fun v w1 => v = .string (smallN nm) ∧ w1 = wd) (calls_ret (small_any nm HNM.out _) (by rintro e w1 ⟨rfl, h⟩; exact ⟨_, rfl, rfl, h⟩)) ?_
        rintro v w1 ⟨rfl, hw1⟩
        rw [hw1]
        clear hw1
        refine hK _ _ ⟨fun _ => hS, ?_⟩
        clear hK K
        try simp only [Act.put, List.setIfInBounds_toArray, List.set_cons_succ, List.set_cons_zero]
        refine tree_look rfl hS rfl (by intro w hS; obtain ⟨p0, p1, p2⟩ := SCX.out w hS; go_simp; with_reducible rfl) (fun c a w h => h) ?_
        try simp only [Act.put, List.setIfInBounds_toArray, List.set_cons_succ, List.set_cons_zero]
        refine tree_act rfl rfl (fun K hK => ?_)
        go_simp
        obtain ⟨x1, hx⟩ : ∃ x1, x1 = wd.alloc (.cells #[.int .i64 0, .int .i64 0, .string ⟨#[]⟩, .slice none 0 0] 28) := ⟨_, rfl⟩
        rw [← hx]
        try rw [hpb]
        have kx : Chg (fun _ => False) wd x1 := by rw [hx]; exact (Chg.refl _ _).alloc _
        have hP : x1.heap[b0 + 1 + 1]? = some (.cells #[.int .i64 0, .int .i64 0, .string ⟨#[]⟩, .slice none 0 0] 28 (0, 0)) := by rw [hx]; exact heap_new' hpb
        replace hb := bel_trans hb kx.to_below
        replace hS := kx.heap hS (fun x => x)
        refine hK _ _ ⟨fun _ => hS, ?_⟩
        clear hK K hx hpb kx
        try simp only [Act.put, List.setIfInBounds_toArray, List.set_cons_succ, List.set_cons_zero]
        refine tree_act rfl rfl (fun K hK => ?_)
        have y0 := cell_of_block hP 0
        have y1 := cell_of_block hP 1
        have y2 := cell_of_block hP 2
        have y3 := cell_of_block hP 3
        have z0 := frozen_of_block hP 0
        have z1 := frozen_of_block hP 1
        have z2 := frozen_of_block hP 2
        have z3 := frozen_of_block hP 3
        simp at y0 y1 y2 y3
        have hE := heap_set (heap_set (heap_set (heap_set hP 0 (.int .i64 op)) 1 (.int .i64 n)) 2 (.string (smallN nm))) 3 (.slice none 0 0)
        have hHE := Lib.hid hE
        clear hE
        go_simp
        obtain ⟨x2, hx⟩ : ∃ x2, x2 = (((x1.setCell ⟨b0 + 1 + 1, 0, none⟩ (.int .i64 op)).setCell ⟨b0 + 1 + 1, 1, none⟩ (.int .i64 n)).setCell ⟨b0 + 1 + 1, 2, none⟩ (.string (smallN nm))).setCell ⟨b0 + 1 + 1, 3, none⟩ (.slice none 0 0) := ⟨_, rfl⟩
        have kx : Chg (fun k => k = b0 + 1 + 1) x1 x2 := by rw [hx]; exact ((((Chg.refl (fun k => k = b0 + 1 + 1) x1).setCell (p := ⟨b0 + 1 + 1, 0, none⟩) (fun _ => rfl) _).setCell (p := ⟨b0 + 1 + 1, 1, none⟩) (fun _ => rfl) _).setCell (p := ⟨b0 + 1 + 1, 2, none⟩) (fun _ => rfl) _).setCell (p := ⟨b0 + 1 + 1, 3, none⟩) (fun _ => rfl) _
        rw [← hx]
        have hSe := kx.heap hS (by omega)
        refine hK _ _ ⟨fun _ => hSe, ?_⟩
        clear hK K
        refine tree_end ?_
        have hbe : Below wz.heap.size wz x2 := hb.trans (kx.below (B := wz.heap.size) (fun k e => by omega) hb.size)
        have hxP : x2.heap[b0 + 1 + 1]? = some (.cells #[.int .i64 op, .int .i64 n, .string (smallN nm), .slice none 0 0] 28 (0, 0)) := by rw [hx]; exact hHE.out
        have HRES := Lib.hid (And.intro hxP hbe)
        clear hx hxP
        go_wp2_with fail
        go_meet
        case rel => exact ⟨rfl, HRES⟩
      · skip
        go_simp
        obtain ⟨x1, hx⟩ : ∃ x1, x1 = wd.alloc (.cells #[.int .i64 0, .int .i64 0, .string ⟨#[]⟩, .slice none 0 0] 28) := ⟨_, rfl⟩
        rw [← hx]
        try rw [hpb]
        have kx : Chg (fun _ => False) wd x1 := by rw [hx]; exact (Chg.refl _ _).alloc _
        have hP : x1.heap[b0 + 1 + 1]? = some (.cells #[.int .i64 0, .int .i64 0, .string ⟨#[]⟩, .slice none 0 0] 28 (0, 0)) := by rw [hx]; exact heap_new' hpb
        replace hb := bel_trans hb kx.to_below
        replace hS := kx.heap hS (fun x => x)
        refine hK _ _ ⟨fun _ => hS, ?_⟩
        clear hK K hx hpb kx
        try simp only [Act.put, List.setIfInBounds_toArray, List.set_cons_succ, List.set_cons_zero]
        refine tree_act rfl rfl (fun K hK => ?_)
        refine wp_call 16 _ _ Try.func16 rfl (by kernel_rfl) _ _ rfl #[.string nm] (by simp [Act.eval]) (R := fun v w1 => v = .string (smallN nm) ∧ w1 = x1) (calls_ret (small_any nm HNM.out _) (by rintro e w1 ⟨rfl, h⟩; exact ⟨_, rfl, rfl, h⟩)) ?_
        rintro v w1 ⟨rfl, hw1⟩
        rw [hw1]
        clear hw1
        refine hK _ _ ⟨fun _ => hS, ?_⟩
        clear hK K
        try simp only [Act.put, List.setIfInBounds_toArray, List.set_cons_succ, List.set_cons_zero]
        refine tree_look rfl hS rfl (by intro w hS; obtain ⟨p0, p1, p2⟩ := SCX.out w hS; go_simp; with_reducible rfl) (fun c a w h => h) ?_
        try simp only [Act.put, List.setIfInBounds_toArray, List.set_cons_succ, List.set_cons_zero]
        refine tree_act rfl rfl (fun K hK => ?_)
        have y0 := cell_of_block hP 0
        have y1 := cell_of_block hP 1
        have y2 := cell_of_block hP 2
        have y3 := cell_of_block hP 3
        have z0 := frozen_of_block hP 0
        have z1 := frozen_of_block hP 1
        have z2 := frozen_of_block hP 2
        have z3 := frozen_of_block hP 3
        simp at y0 y1 y2 y3
        have hE := heap_set (heap_set (heap_set (heap_set hP 0 (.int .i64 op)) 1 (.int .i64 n)) 2 (.string (smallN nm))) 3 (.slice none 0 0)
        have hHE := Lib.hid hE
        clear hE
        go_simp
        obtain ⟨x2, hx⟩ : ∃ x2, x2 = (((x1.setCell ⟨b0 + 1 + 1, 0, none⟩ (.int .i64 op)).setCell ⟨b0 + 1 + 1, 1, none⟩ (.int .i64 n)).setCell ⟨b0 + 1 + 1, 2, none⟩ (.string (smallN nm))).setCell ⟨b0 + 1 + 1, 3, none⟩ (.slice none 0 0) := ⟨_, rfl⟩
        have kx : Chg (fun k => k = b0 + 1 + 1) x1 x2 := by rw [hx]; exact ((((Chg.refl (fun k => k = b0 + 1 + 1) x1).setCell (p := ⟨b0 + 1 + 1, 0, none⟩) (fun _ => rfl) _).setCell (p := ⟨b0 + 1 + 1, 1, none⟩) (fun _ => rfl) _).setCell (p := ⟨b0 + 1 + 1, 2, none⟩) (fun _ => rfl) _).setCell (p := ⟨b0 + 1 + 1, 3, none⟩) (fun _ => rfl) _
        rw [← hx]
        have hSe := kx.heap hS (by omega)
        refine hK _ _ ⟨fun _ => hSe, ?_⟩
        clear hK K
        refine tree_end ?_
        have hbe : Below wz.heap.size wz x2 := hb.trans (kx.below (B := wz.heap.size) (fun k e => by omega) hb.size)
        have hxP : x2.heap[b0 + 1 + 1]? = some (.cells #[.int .i64 op, .int .i64 n, .string (smallN nm), .slice none 0 0] 28 (0, 0)) := by rw [hx]; exact hHE.out
        have HRES := Lib.hid (And.intro hxP hbe)
        clear hx hxP
        go_wp2_with fail
        go_meet
        case rel => exact ⟨rfl, HRES⟩
    case rest =>
      obtain ⟨rfl, HR⟩ := hcut
      obtain ⟨wa, hwa⟩ : ∃ wa : World, wa = wc := ⟨_, rfl⟩
      rw [← hwa] at HR ⊢
      clear hwa SCX
      have hbox := HR.out.1
      have hcz : Chg (fun k => k = b0 + 1 + 1) wz wa := (Below.chg HR.out.2).mono (fun _ _ x => x.elim)
      have hoz : b0 + 1 + 1 < wa.heap.size := lt_of_heap hbox
      have hba := hcz.heap hbz (by omega)
      have hra := hcz.heap hrz (by omega)
      have hsa := hcz.size
      have HBA : Hid (Below w.heap.size w wa) := Lib.hid (HBE.out.trans (hcz.below (B := w.heap.size) (fun k hk => by have := HW.out; omega) (HBE.out.size)))
      clear hbz hrz hcz
      obtain ⟨base, hbase⟩ : ∃ base, base = wa.heap.size := ⟨_, rfl⟩
      have hst : PlI wa base (b0 + 1 + 1) (.int .i64 op) (.int .i64 n) (.string (smallN nm)) (.slice none 0 0) [] (fun _ => False) [] := PlI.start hbox (by omega)
      have HBS := Lib.hid hbase
      have hbl : b0 + 1 + 1 < base := by omega
      clear hbase hbox hsa hsz hoz
      have h3 := cell_of_block hba 3
      simp at h3
      go_wp2_with fail
      go_loopg [6] m (fun k v wr => ∃ j : Nat, j ≤ m ∧ k = m - j ∧ v = .int .i64 j ∧ (dd = 0 → j = 0) ∧ ∃ V rows Y, Hid (PlI wr base (b0 + 1 + 1) (.int .i64 op) (.int .i64 n) (.string (smallN nm)) V rows Y ((l.take j).map (smallE (d - 1)))) ∧ Hid (Chg (fun k => k = b0 + 1 + 1 ∨ base ≤ k) wa wr))
      case atStart => exact ⟨0, by omega, rfl, rfl, fun _ => rfl, _, _, _, Lib.hid hst, Lib.hid (Chg.refl _ _)⟩
      case round =>
        obtain ⟨j, hj, hk2, rfl, hj0, V, rows, Y, HP, HC⟩ := hrel
        have HK := Lib.hid hk2
        clear hk2 hst h3
        have hbr := HC.out.heap hba (by omega)
        have hrr := HC.out.heap hra (by omega)
        have h3 := cell_of_block hbr 3
        simp at h3
        have hsr : base ≤ wr.heap.size := by rw [HBS.out]; exact HC.out.size
        have hBr : Below w.heap.size w wr := HBA.out.trans (HC.out.below (B := w.heap.size) (fun k hk => by have := HW.out; omega) HBA.out.size)
        by_cases hlt : j < m
        · by_cases hdp : 0 < dd
          · have hjl : j < l.length := by rw [← HM.out]; exact hlt
            obtain ⟨eb, eo, op2, n2, nm2, B2, lc, cc, rfl, hie, hcc⟩ := HE.out.get j hjl
            obtain ⟨e0, e1, e2, e3⟩ := hcc wr hBr
            have hsme := HSL.out j l[j] (List.getElem?_eq_getElem hjl)
            have htk := List.take_succ_eq_append_getElem hjl
            obtain ⟨x, hx⟩ : ∃ x, l[j] = x := ⟨_, rfl⟩
            rw [hx] at hie hsme htk
            have CP : Hid (Calls Try.prog 27 #[.agg #[.int .i64 op2, .int .i64 n2, .string nm2, .slice B2 lc cc], .int .i64 (dd - 1)] wr fun e w' => ∃ (a b : Int) (s : ByteArray) (A : Option Addr) (k c : Nat), e = .returned (.agg #[.int .i64 a, .int .i64 b, .string s, .slice A k c]) ∧ IsExpr w' (fun k => wr.heap.size ≤ k ∧ k < w'.heap.size) (smallE (d - 1) x) [.int .i64 a, .int .i64 b, .string s, .slice A k c] ∧ Below wr.heap.size wr w') := Lib.hid (HIH.out x wr X _ hdp (hie.kept (Below.chg hBr) (fun _ _ x => x)) hsme)
            have HTK := Lib.hid htk
            have hjn : ((l.take j).map (smallE (d - 1))).length = j := by rw [List.length_map, List.length_take]; omega
            have hrow0 := HP.out.row
            rw [hjn] at hrow0
            obtain ⟨_, AV, cV, rfl⟩ := ownsRow_slice hrow0
            have HJN := Lib.hid hjn
            clear hjn hx hie hcc hsme htk hjl hrow0
            go_wp2_with fail
            refine CP.out.mono ?_; rintro e w1 ⟨a, b, s, A3, k3, c3, rfl, hie1, hb1⟩
            obtain ⟨wy, hwy⟩ : ∃ wy, wy = w1.alloc (.cells #[.int .i64 a, .int .i64 b, .string s, .slice A3 k3 c3] 28) := ⟨_, rfl⟩
            obtain ⟨i0, hi, hz0, hz1, hz2⟩ := info_parts infoExpr
            have hby : Below w1.heap.size w1 wy := by rw [hwy]; exact (Below.refl _ _).alloc (Nat.le_refl _) _
            have hxy : wy.heap[w1.heap.size]? = some (.cells #[.int .i64 a, .int .i64 b, .string s, .slice A3 k3 c3] 28 (0, 0)) := by rw [hwy]; exact heap_new _ _
            have hbx : Below w1.heap.size w1 (wy.alloc (.cells #[.int .i64 a, .int .i64 b, .string s, .slice A3 k3 c3] 28)) := hby.alloc hby.size _
            have hP1 := HP.out.keep hb1
            have hPy := (hP1.keep hby).box
            have hPx := hP1.keep hbx
            have v3 := cell_of_block hPy 3
            have x0 := cell_of_block hxy 0
            have x1 := cell_of_block hxy 1
            have x2 := cell_of_block hxy 2
            have x3 := cell_of_block hxy 3
            simp at v3 x0 x1 x2 x3
            have hrowx := hPx.row
            rw [HJN.out] at hrowx
            have hVO : ¬ (Value.slice AV j cV).ownBlock = some (b0 + 1 + 1) := fun e => by have := (hrowx.lt _ e).1; omega
            have HROW := Lib.hid hrowx
            have HBX := Lib.hid hPx.box
            have HVO := Lib.hid hVO
            have hbsz : base ≤ (wy.alloc (.cells #[.int .i64 a, .int .i64 b, .string s, .slice A3 k3 c3] 28)).heap.size := by have := hb1.size; have := hbx.size; omega
            have HBSZ := Lib.hid hbsz
            have HI1 := Lib.hid (And.intro hie1 (And.intro hb1 hbx))
            have hnews : ∀ (j : Nat) u, ([.int .i64 a, .int .i64 b, .string s, .slice A3 k3 c3] : List Value)[j]? = some u → (wy.alloc (.cells #[.int .i64 a, .int .i64 b, .string s, .slice A3 k3 c3] 28)).cell? ((⟨wy.heap.size, 0, none⟩ : Addr).add j) = some u := World.news_of_block (cs := #[.int .i64 a, .int .i64 b, .string s, .slice A3 k3 c3]) (t := 28) (fr := (0, 0)) (heap_new _ _)
            have HNEWS := Lib.hid hnews
            clear hie1 hb1 hby hxy hbx hP1 hPy hPx hrowx hVO hbsz hnews e0 e1 e2 e3 h3
            go_upto_region 6 with fail
            rw [← hwy]
            clear hwy
            go_wp2_with (at_builtin; refine wpList_append_own_at _ rfl _ _ _ rfl base 28 i0 _ 4 56 Try.underlying26 hi hz0 hz1 hz2 rfl (by omega) (.slice AV j cV) j rows.flatten rfl HROW.out ⟨wy.heap.size, 0, none⟩ 1 1 [.int .i64 a, .int .i64 b, .string s, .slice A3 k3 c3] rfl rfl HNEWS.out (by simp [Value.oneCell']) (by unfold maxLen; omega) (by omega) HBSZ.out ?_; intro v1 w2 ho1 hg1 hnn hat1; have hb2 := (Chg.of_grown hg1).heap HBX.out HVO.out; have k1 := cell_of_block hb2 3; have kf1 := frozen_of_block hb2 3; simp at k1; obtain ⟨_, D1, d9, rfl⟩ := ownsRow_slice ho1)
            have hstep := PlI.step (w2 := w2) (V' := .slice D1 (j + 1) d9) HP.out HI1.out.2.1 hsr HI1.out.1 rfl HI1.out.2.2 (by rw [HJN.out]; exact ho1) hg1 hat1
            rw [show (l.take j).map (smallE (d - 1)) ++ [smallE (d - 1) x] = (l.take (j + 1)).map (smallE (d - 1)) by rw [HTK.out, List.map_append]; rfl] at hstep
            have HST := Lib.hid hstep
            clear hstep
            go_roundg (m - (j + 1))
            case measure => have := HK.out; omega
            case rel => exact ⟨j + 1, by omega, rfl, by go_num, fun e => by omega, _, _, _, Lib.hid HST.out.1, Lib.hid (HC.out.then (HST.out.2.mono (fun k _ e => by
              rcases e with e | e
              · exact .inl e
              · exact .inr (HROW.out.lt k e).1)))⟩
          · obtain rfl : dd = 0 := by omega
            obtain rfl : j = 0 := hj0 rfl
            have htf : (l.take 0).map (smallE (d - 1)) = tf := by rw [← HTF.out, if_pos (by have := HDD.out; omega)]; rfl
            have hjn : ((l.take 0).map (smallE (d - 1))).length = 0 := rfl
            have hrow0 := HP.out.row
            rw [hjn] at hrow0
            obtain ⟨_, AV, cV, rfl⟩ := ownsRow_slice hrow0
            have hdone := HP.out.done (by rw [smallN_size]; have := HNM.out; omega) (by rw [hjn]; omega)
            rw [htf] at hdone
            have hobx := HP.out.box
            have o0 := cell_of_block hobx 0
            have o1 := cell_of_block hobx 1
            have o2 := cell_of_block hobx 2
            have o3 := cell_of_block hobx 3
            have r0 := cell_of_block hrr 0
            have r1 := cell_of_block hrr 1
            have r2 := cell_of_block hrr 2
            have r3 := cell_of_block hrr 3
            have f0 := frozen_of_block hrr 0
            have f1 := frozen_of_block hrr 1
            have f2 := frozen_of_block hrr 2
            have f3 := frozen_of_block hrr 3
            simp at o0 o1 o2 o3 r0 r1 r2 r3
            have HDN := Lib.hid (And.intro hdone (And.intro hrr hBr))
            clear hdone hrow0 hjn htf hobx
            obtain ⟨wf, hwf⟩ : ∃ wf, wf = ((((wr.setCell ⟨b0 + 1, 0, none⟩ (.int .i64 op)).setCell ⟨b0 + 1, 1, none⟩ (.int .i64 n)).setCell ⟨b0 + 1, 2, none⟩ (.string (smallN nm))).setCell ⟨b0 + 1, 3, none⟩ (.slice AV 0 cV)) := ⟨_, rfl⟩
            have hchg : Chg (fun k => k = b0 + 1) wr wf := by
              rw [hwf]
              exact ((((Chg.refl (fun k => k = b0 + 1) wr).setCell (p := ⟨b0 + 1, 0, none⟩) (fun _ => rfl) _).setCell (p := ⟨b0 + 1, 1, none⟩) (fun _ => rfl) _).setCell (p := ⟨b0 + 1, 2, none⟩) (fun _ => rfl) _).setCell (p := ⟨b0 + 1, 3, none⟩) (fun _ => rfl) _
            have hrf : wf.heap[b0 + 1]? = some (.cells #[.int .i64 op, .int .i64 n, .string (smallN nm), .slice AV 0 cV] 28 (0, 0)) := by
              rw [hwf]
              exact heap_set (heap_set (heap_set (heap_set hrr 0 _) 1 _) 2 _) 3 _
            have HFF := Lib.hid (And.intro hchg hrf)
            have HWF := Lib.hid hwf
            clear hchg hrf hwf
            go_wp2_with fail
            rw [← HWF.out]
            have g0 := cell_of_block HFF.out.2 0
            have g1 := cell_of_block HFF.out.2 1
            have g2 := cell_of_block HFF.out.2 2
            have g3 := cell_of_block HFF.out.2 3
            simp at g0 g1 g2 g3
            refine bodyPost_ret (v := .agg #[.int .i64 op, .int .i64 n, .string (smallN nm), .slice AV 0 cV]) (by simp [results, Try.results27, go_sem, g0, g1, g2, g3]) rfl ⟨op, n, smallN nm, AV, _, cV, rfl, ?_, ?_⟩
            · exact (HDN.out.1.kept HFF.out.1 (fun k hk e => by omega)).mono (fun k hk => ⟨by have := HW.out; omega, Nat.lt_of_lt_of_le hk.2 HFF.out.1.size⟩)
            · exact HDN.out.2.2.trans (HFF.out.1.below (B := w.heap.size) (fun k e => by have := HW.out; omega) HDN.out.2.2.size)
        · obtain rfl : j = m := by omega
          have htf : (l.take j).map (smallE (d - 1)) = tf := by
            rw [← HTF.out]
            by_cases hz : d = 0
            · have h0 : j = 0 := hj0 (by rw [HDD.out, hz]; rfl)
              rw [if_pos hz, h0]; rfl
            · rw [if_neg hz, List.take_of_length_le (by have := HM.out; omega)]
          have hjn : ((l.take j).map (smallE (d - 1))).length = j := by rw [List.length_map, List.length_take]; have := HM.out; omega
          have hrow0 := HP.out.row
          rw [hjn] at hrow0
          obtain ⟨_, AV, cV, rfl⟩ := ownsRow_slice hrow0
          have hdone := HP.out.done (by rw [smallN_size]; have := HNM.out; omega) (by rw [hjn]; omega)
          rw [htf] at hdone
          have hobx := HP.out.box
          have o0 := cell_of_block hobx 0
          have o1 := cell_of_block hobx 1
          have o2 := cell_of_block hobx 2
          have o3 := cell_of_block hobx 3
          have r0 := cell_of_block hrr 0
          have r1 := cell_of_block hrr 1
          have r2 := cell_of_block hrr 2
          have r3 := cell_of_block hrr 3
          have f0 := frozen_of_block hrr 0
          have f1 := frozen_of_block hrr 1
          have f2 := frozen_of_block hrr 2
          have f3 := frozen_of_block hrr 3
          simp at o0 o1 o2 o3 r0 r1 r2 r3
          have HDN := Lib.hid (And.intro hdone (And.intro hrr hBr))
          clear hdone hrow0 hjn htf hobx
          obtain ⟨wf, hwf⟩ : ∃ wf, wf = ((((wr.setCell ⟨b0 + 1, 0, none⟩ (.int .i64 op)).setCell ⟨b0 + 1, 1, none⟩ (.int .i64 n)).setCell ⟨b0 + 1, 2, none⟩ (.string (smallN nm))).setCell ⟨b0 + 1, 3, none⟩ (.slice AV j cV)) := ⟨_, rfl⟩
          have hchg : Chg (fun k => k = b0 + 1) wr wf := by
            rw [hwf]
            exact ((((Chg.refl (fun k => k = b0 + 1) wr).setCell (p := ⟨b0 + 1, 0, none⟩) (fun _ => rfl) _).setCell (p := ⟨b0 + 1, 1, none⟩) (fun _ => rfl) _).setCell (p := ⟨b0 + 1, 2, none⟩) (fun _ => rfl) _).setCell (p := ⟨b0 + 1, 3, none⟩) (fun _ => rfl) _
          have hrf : wf.heap[b0 + 1]? = some (.cells #[.int .i64 op, .int .i64 n, .string (smallN nm), .slice AV j cV] 28 (0, 0)) := by
            rw [hwf]
            exact heap_set (heap_set (heap_set (heap_set hrr 0 _) 1 _) 2 _) 3 _
          have HFF := Lib.hid (And.intro hchg hrf)
          have HWF := Lib.hid hwf
          clear hchg hrf hwf
          go_wp2_with fail
          rw [← HWF.out]
          have g0 := cell_of_block HFF.out.2 0
          have g1 := cell_of_block HFF.out.2 1
          have g2 := cell_of_block HFF.out.2 2
          have g3 := cell_of_block HFF.out.2 3
          simp at g0 g1 g2 g3
          refine bodyPost_ret (v := .agg #[.int .i64 op, .int .i64 n, .string (smallN nm), .slice AV j cV]) (by simp [results, Try.results27, go_sem, g0, g1, g2, g3]) rfl ⟨op, n, smallN nm, AV, _, cV, rfl, ?_, ?_⟩
          · exact (HDN.out.1.kept HFF.out.1 (fun k hk e => by omega)).mono (fun k hk => ⟨by have := HW.out; omega, Nat.lt_of_lt_of_le hk.2 HFF.out.1.size⟩)
          · exact HDN.out.2.2.trans (HFF.out.1.below (B := w.heap.size) (fun k e => by have := HW.out; omega) HDN.out.2.2.size)
end Go.Proofs.Ytnpmgnfohaeonaa
