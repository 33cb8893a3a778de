/- HeapLast: the walk of the law. -/
import Derived.Test.YtjoibhaohmifcaaHeapMore
import Derived.Deep.LoopGhost
import Derived.Lib.Hide
import Derived.OpenShut
namespace Go.Proofs.Ytjoibhaohmifcaa
set_option linter.unusedVariables false
set_option linter.unusedSimpArgs false
open Go.RowKit Go.Deep

def wantCells (ws : List Int) : Array Value := (ws.map (Value.int .i64)).toArray
def noughts : Array Value := wantCells (List.replicate 100 0)
theorem zero_arr (w : World) : (zeroValue 49).run Try.prog w = .ok (.agg noughts) w := by kernel_rfl
theorem replicate_getD (n t : Nat) : (List.replicate n (0 : Int)).getD t 0 = 0 := by
  rw [List.getD_eq_getElem?_getD, List.getElem?_replicate]
  split <;> rfl
theorem want_get (ws : List Int) (k : Nat) (h : k < ws.length) : (wantCells ws)[k]? = some (.int .i64 (ws.getD k 0)) := by
  simp [wantCells, h, List.getD_eq_getElem?_getD]
theorem want_set (ws : List Int) (k : Nat) (y : Int) : (wantCells ws).setIfInBounds k (.int .i64 y) = wantCells (ws.set k y) := by
  simp [wantCells, List.map_set]

theorem cellv_one (ys : List Int) (k : Nat) : cellv [ys] 0 k = ys[k]? := by
  have := cellv_end [] ys k
  simpa using this
theorem setv_one (ys : List Int) (k : Nat) (y : Int) : setv [ys] 0 k y = [ys.set k y] := by
  have := setv_end [] ys k y
  simpa using this
theorem getD_set (ws : List Int) (k t : Nat) (y : Int) (h : k ≠ t) : (ws.set k y).getD t 0 = ws.getD t 0 := by
  simp [List.getD_eq_getElem?_getD, List.getElem?_set_ne h]

def LRel (w0 : World) (g gw N len1 len2 : Nat) (k : Nat) (i : Value) (wr : World) : Prop :=
  ∃ (j : Nat) (ws : List Int), j ≤ len1 ∧ j ≤ len2 ∧ j ≤ 100 ∧ k = 100 - j ∧ i = .int .i64 j ∧ ws.length = 100 ∧ (∀ t, N ≤ t → ws.getD t 0 = 0) ∧
    HeapIs wr (fun k => w0.heap.size ≤ k ∧ k ≠ gw) g 100 [ws.take N] ∧ wr.heap[gw]? = some (.cells (wantCells ws) 49 (0, 0)) ∧ Below w0.heap.size w0 wr
def LRel2 (w0 : World) (g gw N : Nat) (ws : List Int) (r : Nat) (k : Value) (wr : World) : Prop :=
  ∃ (j : Nat), j ≤ 100 ∧ r = 100 - j ∧ k = .int .i64 j ∧
    HeapIs wr (fun k => w0.heap.size ≤ k ∧ k ≠ gw) g 100 [ws.take N] ∧ wr.heap[gw]? = some (.cells (wantCells ws) 49 (0, 0)) ∧ Below w0.heap.size w0 wr

set_option maxHeartbeats 4000000 in
set_option maxRecDepth 100000 in
theorem heapLast_walk (n : Int) (a1 : Option Addr) (len1 cap1 : Nat) (zs1 : List Int) (a2 : Option Addr) (len2 cap2 : Nat) (zs2 : List Int) (w : World) (hn : (Lit.int .i64 n).wf = true) (hr1 : IntRow .u8 w a1 len1 zs1) (hl1 : len1 * 1 ≤ 140737488351232) (hr2 : IntRow .i64 w a2 len2 zs2) (hl2 : len2 * 8 ≤ 140737488351232) :
    Calls Try.prog 8 #[.int .i64 n, .slice a1 len1 cap1, .slice a2 len2 cap2] w fun e w' => e = .returned (.bool true) ∧ Below w.heap.size w w' := by
  suffices hs : ∀ w0, w0 = w → Calls Try.prog 8 #[.int .i64 n, .slice a1 len1 cap1, .slice a2 len2 cap2] w fun e w' => e = .returned (.bool true) ∧ Below w0.heap.size w0 w' from hs w rfl
  intro w0 hw0
  have HR1 := Lib.hid hr1
  have HR2 := Lib.hid hr2
  have HW := Lib.hid hw0
  have hlen1 : len1 ≤ 9223372036854775807 := by omega
  have hlen2 : len2 ≤ 9223372036854775807 := by omega
  clear hr1 hr2 hw0 hl1 hl2
  obtain ⟨m, hm⟩ : ∃ m, bits .and .i64 n 65535 = m := ⟨_, rfl⟩
  have hm0 : 0 ≤ m ∧ m ≤ 65535 := by rw [← hm, and_mask16]; omega
  obtain ⟨hm0, hm1⟩ := hm0
  obtain ⟨N, hN⟩ : ∃ N : Nat, (N : Int) = 1 + m % 100 := ⟨(1 + m % 100).toNat, by omega⟩
  have hN1 : 1 ≤ N := by omega
  have hN2 : N ≤ 100 := by omega
  have HNN := Lib.hid hN
  have hmk : makev 100 [] (1 + m % 100) = (0, 0, [List.replicate N 0]) := by
    unfold makev
    rw [if_neg (by omega), if_neg (by simp [total]; omega), ← hN]
    simp
  have HM := Lib.hid hmk
  clear hmk hN
  have hz := zero_arr
  go_enter Try.func8, Try.ntmps8
  go_wp2_with fail
  refine (shown_any _).mono ?_; rintro e w1 ⟨rfl, hb1⟩
  have HB1 : Hid (Below w0.heap.size w0 w1) := by rw [HW.out]; exact hb1
  clear hb1
  go_wp2_with fail
  refine (HB.new HB1.out 100 100 (by decide)).mono ?_
  rintro e w2 ⟨g, rfl, h⟩
  go_wp2_with fail
  refine (h.make (1 + m % 100) 0 0 _ HM.out).mono ?_; rintro e w3 ⟨rfl, h3⟩
  go_wp2_with fail
  obtain ⟨gw, hgw⟩ : ∃ gw, gw = w3.heap.size := ⟨_, rfl⟩
  have hst : HeapIs (w3.alloc (.cells noughts 49)) (fun k => w0.heap.size ≤ k ∧ k ≠ gw) g 100 [(List.replicate 100 (0 : Int)).take N] := by
    have e : (List.replicate 100 (0 : Int)).take N = List.replicate N 0 := by rw [List.take_replicate, Nat.min_eq_left hN2]
    rw [e]
    exact (h3.is.bound.mono (fun k hk => ⟨hk.1, by omega⟩)).kept (T := fun _ => False) ((Chg.refl _ _).alloc _) (fun _ _ x => x)
  have hwb : (w3.alloc (.cells noughts 49)).heap[gw]? = some (.cells (wantCells (List.replicate 100 0)) 49 (0, 0)) := by
    rw [hgw]; exact heap_new w3 _
  have hbb : Below w0.heap.size w0 (w3.alloc (.cells noughts 49)) := h3.bel.alloc h3.bel.size _
  have hgw0 : w0.heap.size ≤ gw := by rw [hgw]; exact h3.bel.size
  have HGW := Lib.hid hgw
  have HST := Lib.hid hst
  have HWB := Lib.hid hwb
  have HBB := Lib.hid hbb
  clear hgw hst hwb hbb h3 h
  go_wp2_with fail
  have e1 := HGW.out
  rw [← e1]
  clear e1
  go_loopg [12] 100 (fun k i wr => LRel w0 g gw N len1 len2 k i wr)
  case atStart => exact ⟨0, List.replicate 100 0, by omega, by omega, by omega, rfl, rfl, by simp, fun t _ => replicate_getD _ _, HST.out, HWB.out, HBB.out⟩
  case round =>
    obtain ⟨j, ws, hj1, hj2, hj3, hk, rfl, hwl, hwz, h, hb, hbel⟩ := hrel
    have HK := Lib.hid hk
    have HWL := Lib.hid hwl
    have HWZ := Lib.hid hwz
    have HBL := Lib.hid hb
    have HBEL := Lib.hid hbel
    clear hk hwl hwz hb hbel
    by_cases hall : j < len1 ∧ j < len2 ∧ j < 100
    · obtain ⟨hlt1, hlt2, hlt3⟩ := hall
      · · obtain ⟨b1, o1, rfl, hc1⟩ := HR1.out.at_ (by omega)
          obtain ⟨b2, o2, rfl, hc2⟩ := HR2.out.at_ (by omega)
          obtain ⟨hz1, hz2⟩ := bounds_u8 (HR1.out.wfD j hlt1)
          have hk1 := hc1 j hlt1
          have hk2 := hc2 j hlt2
          clear hc1 hc2
          have hcw1 : wr.cell? ⟨b1, o1 + j, none⟩ = some (.int .u8 (zs1.getD j 0)) := by
            have hbl := World.block_lt_of_cell? w _ hk1
            have := HBEL.out.cell (p := ⟨b1, o1 + j, none⟩) (by rw [HW.out]; exact hbl)
            rw [this, HW.out]; exact hk1
          have hcw2 : wr.cell? ⟨b2, o2 + j, none⟩ = some (.int .i64 (zs2.getD j 0)) := by
            have hbl := World.block_lt_of_cell? w _ hk2
            have := HBEL.out.cell (p := ⟨b2, o2 + j, none⟩) (by rw [HW.out]; exact hbl)
            rw [this, HW.out]; exact hk2
          have hbl2 : b2 < w0.heap.size := by rw [HW.out]; exact World.block_lt_of_cell? w _ hk2
          clear hk1 hk2
          generalize zs1.getD j 0 = z at *
          generalize zs2.getD j 0 = y at *
          obtain ⟨kk, hkk⟩ : ∃ kk : Nat, z % 110 = (kk : Int) := ⟨(z % 110).toNat, by omega⟩
          have hkk2 : kk < 110 := by omega
          by_cases hkn : kk < N
          · have hs : (cellv [ws.take N] 0 kk).isSome = true ∧ setv [ws.take N] 0 kk y = [(ws.set kk y).take N] := by
              rw [cellv_one, setv_one, List.take_set]
              have := HWL.out
              exact ⟨by simp; omega, rfl⟩
            have HS := Lib.hid hs
            clear hs
            have hnz := HNN.out
            have hklt : (kk : Int) < 1 + m % 100 := by omega
            clear hnz
            go_wp2_with fail
            refine (set_at h 0 kk y true _ HS.out).mono ?_; rintro e w4 ⟨rfl, h4, hch⟩
            have hb4 := hch.heap HBL.out (fun x => x.2 rfl)
            have hwl := HWL.out
            have hcell : w4.cell? ⟨gw, kk, none⟩ = some (.int .i64 (ws.getD kk 0)) := by
              rw [cell_of_block hb4, want_get ws kk (by omega)]
            have hfz : w4.frozen? ⟨gw, kk, none⟩ = false := frozen_of_block hb4 kk
            have hcy : w4.cell? ⟨b2, o2 + j, none⟩ = some (.int .i64 y) := hch.cell hcw2 (fun x => by have := x.1; simp at this; omega)
            clear hwl
            go_wp2_with fail
            go_roundg (99 - j)
            case measure => have := HK.out; omega
            case rel =>
              have hwl := HWL.out
              refine ⟨j + 1, ws.set kk y, by omega, by omega, by omega, by omega, by go_num, by simpa using hwl, fun t ht => ?_, ?_, ?_, ?_⟩
              · rw [getD_set _ _ _ _ (by omega)]; exact HWZ.out t ht
              · exact h4.kept (T := fun k => k = gw) (Chg.set_cell ⟨gw, kk, none⟩ _) (fun k hk e => hk.2 e)
              · have := heap_set hb4 kk (.int .i64 y)
                rw [want_set] at this
                exact this
              · exact (HBEL.out.trans (hch.below (fun k hk => hk.1) HBEL.out.size)).setCell hgw0 _
          · have hs : (cellv [ws.take N] 0 kk).isSome = false ∧ setv [ws.take N] 0 kk y = [ws.take N] := by
              rw [cellv_one, setv_one]
              have := HWL.out
              exact ⟨by simp; omega, by rw [List.set_eq_of_length_le (by simp; omega)]⟩
            have HS := Lib.hid hs
            clear hs
            have hnz := HNN.out
            have hklt : ¬ (kk : Int) < 1 + m % 100 := by omega
            clear hnz
            go_wp2_with fail
            refine (set_at h 0 kk y false _ HS.out).mono ?_; rintro e w4 ⟨rfl, h4, hch⟩
            have hb4 := hch.heap HBL.out (fun x => x.2 rfl)
            go_wp2_with fail
            go_roundg (99 - j)
            case measure => have := HK.out; omega
            case rel => exact ⟨j + 1, ws, by omega, by omega, by omega, by omega, by go_num, HWL.out, HWZ.out, h4, hb4, HBEL.out.trans (hch.below (fun k hk => hk.1) HBEL.out.size)⟩
    · have hex : (¬ j < len1) ∨ (j < len1 ∧ ¬ j < len2) ∨ (j < len1 ∧ j < len2 ∧ ¬ j < 100) := by omega
      clear hall
      rcases hex with e1 | ⟨e1, e2⟩ | ⟨e1, e2, e3⟩
      all_goals
        go_wp2_with fail
        go_loopg [14] 100 (fun k i wr => LRel2 w0 g gw N ws k i wr)
        case atStart => exact ⟨0, by omega, by omega, rfl, h, HBL.out, HBEL.out⟩
        case round =>
          clear h
          obtain ⟨t, ht1, hr, rfl, h, hb, hbel⟩ := hrel
          have HRR := Lib.hid hr
          have HB2 := Lib.hid hb
          have HBEL2 := Lib.hid hbel
          clear hr hb hbel
          by_cases ht : t < 100
          · have hcell : ∀ x, ws.getD t 0 = x → wr.cell? ⟨gw, t, none⟩ = some (.int .i64 x) := fun x hx => by
              rw [cell_of_block HB2.out, want_get ws t (by rw [HWL.out]; exact ht), hx]
            obtain ⟨x, hx⟩ : ∃ x, ws.getD t 0 = x := ⟨_, rfl⟩
            have hcx := hcell x hx
            clear hcell
            have HX := Lib.hid hx
            clear hx
            have hnz := HNN.out
            by_cases htn : t < N
            · have htz : (t : Int) < 1 + m % 100 := by omega
              clear hnz
              have hg : (cellv [ws.take N] 0 t).getD 0 = x ∧ (cellv [ws.take N] 0 t).isSome = true := by
                have hwl := HWL.out
                rw [cellv_one, List.getElem?_take_of_lt htn, ← HX.out, List.getD_eq_getElem?_getD]
                exact ⟨rfl, by simp; omega⟩
              have HG := Lib.hid hg
              clear hg
              go_wp2_with fail
              refine (get_at h 0 t x true HG.out).mono ?_; rintro e w4 ⟨rfl, rfl⟩
              go_wp2_with fail
              go_roundg (99 - t)
              case measure => have := HRR.out; omega
              case rel => exact ⟨t + 1, by omega, by omega, by go_num, h, HB2.out, HBEL2.out⟩
            · have htz : ¬ (t : Int) < 1 + m % 100 := by omega
              clear hnz
              have hx0 : x = 0 := by rw [← HX.out]; exact HWZ.out t (by omega)
              subst hx0
              have hg : (cellv [ws.take N] 0 t).getD 0 = 0 ∧ (cellv [ws.take N] 0 t).isSome = false := by
                rw [cellv_one, List.getElem?_take_eq_none (by omega)]
                exact ⟨rfl, rfl⟩
              have HG := Lib.hid hg
              clear hg
              go_wp2_with fail
              refine (get_at h 0 t 0 false HG.out).mono ?_; rintro e w4 ⟨rfl, rfl⟩
              go_wp2_with fail
              go_roundg (99 - t)
              case measure => have := HRR.out; omega
              case rel => exact ⟨t + 1, by omega, by omega, by go_num, h, HB2.out, HBEL2.out⟩
          · have hT : total [ws.take N] = 1 + m % 100 := by
              rw [← HNN.out]
              have hwl := HWL.out
              simp [total]
              omega
            have HT := Lib.hid hT
            clear hT
            go_wp2_with fail
            refine (used_at h (1 + m % 100) HT.out).mono ?_; rintro e w4 ⟨rfl, rfl⟩
            go_wp2_with fail
            go_ret
            exact ⟨rfl, HBEL2.out⟩
end Go.Proofs.Ytjoibhaohmifcaa
