/- spec: For. -/
import Derived.Test.YtgiegkacilfofabDoorSpecB
namespace Go.Proofs.YtgiegkacilfofabDoor
set_option linter.unusedVariables false
set_option linter.unusedSimpArgs false
open Go.RowKit

def putI (k n : Int) (x : InsR) : InsR := if x.op = 2 ∧ x.a = k then pushR n else x
def forv (l : List InsR) (ps k n : Int) : List InsR := if fixedv ps k l = true then foldv (l.map (putI k n)) else foldv l
theorem putI_wf {k n : Int} {x : InsR} (h : WfI x) : WfI (putI k n x) := by
  unfold putI
  split
  · exact ⟨by show In64 0; unfold In64; omega⟩
  · exact h
theorem insCells_put (l : List InsR) (j : Nat) (x y : InsR) (h : l[j]? = some x) : insCells (l.set j y) = ((((insCells l).set (j * 3) (.int .i64 y.op)).set (j * 3 + 1) (.int .i64 y.a)).set (j * 3 + 2) (.int .i64 y.n)) := by
  induction l generalizing j with
  | nil => simp at h
  | cons z l ih =>
    cases j with
    | zero => simp [insCells, InsR.cells]
    | succ j =>
      have h2 := ih j (by simpa using h)
      unfold insCells at h2 ⊢
      simp only [List.set_cons_succ, List.flatMap_cons]
      have hz : z.cells.length = 3 := rfl
      rw [h2]
      rw [List.set_append_right _ _ (by omega), List.set_append_right _ _ (by omega), List.set_append_right _ _ (by omega), hz]
      rw [show (j + 1) * 3 - 3 = j * 3 by omega, show (j + 1) * 3 + 1 - 3 = j * 3 + 1 by omega, show (j + 1) * 3 + 2 - 3 = j * 3 + 2 by omega]

set_option maxHeartbeats 2000000 in
set_option maxRecDepth 100000 in
theorem for_any {w : World} {V : Value} {l : List InsR} (nm : ByteArray) (ps vs ar k m : Int) (hs : Src w V l.length (insCells l)) (hl : l.length ≤ 1048576) (hwl : ∀ x ∈ l, WfI x) :
    Calls Tryd.prog 45 #[.agg #[.string nm, .int .i64 ps, .int .i64 vs, .int .i64 ar, V], .int .i64 k, .int .i64 m] w fun e w' => ∃ v', e = .returned v' ∧ w'.ownsRow 0 44 3 v' (forv l ps k m).length (insCells (forv l ps k m)) ∧ (∀ k, v'.ownBlock = some k → w.heap.size ≤ k) ∧ Below w.heap.size w w' := by
  obtain ⟨_, A, c, rfl⟩ := hs.bound
  obtain ⟨wb, hwb⟩ : ∃ wb, wb = w.alloc (.cells #[.string nm, .int .i64 ps, .int .i64 vs, .int .i64 ar, .slice A l.length c] 39) := ⟨_, rfl⟩
  obtain ⟨B, hB⟩ : ∃ B, B = w.heap.size := ⟨_, rfl⟩
  have hb : Below w.heap.size w wb := by rw [hwb]; exact (Below.refl _ _).alloc (Nat.le_refl _) _
  have HBX : Hid (wb.heap[B]? = some (.cells #[.string nm, .int .i64 ps, .int .i64 vs, .int .i64 ar, .slice A l.length c] 39 (0, 0))) := Lib.hid (by rw [hwb]; exact heap_new' hB.symm)
  have CX := Lib.hid (fixed_any nm ps vs ar k (hs.keepB hb) hl)
  have HP : Hid (∀ w', Below w.heap.size w w' → Calls Tryd.prog 46 #[.agg #[.string nm, .int .i64 ps, .int .i64 vs, .int .i64 ar, .slice A l.length c]] w' fun e w'' => ∃ v', e = .returned v' ∧ w''.ownsRow 0 44 3 v' (foldv l).length (insCells (foldv l)) ∧ (∀ k, v'.ownBlock = some k → w'.heap.size ≤ k) ∧ Below w'.heap.size w' w'') := Lib.hid (fun w' hb => plain_any nm ps vs ar (hs.keepB hb) hl hwl)
  have HC : Hid (∀ w', Below w.heap.size w w' → Src w' (.slice A l.length c) l.length (insCells l)) := Lib.hid (fun w' hb => hs.keepB hb)
  have HWF := Lib.hid hwl
  have HL := Lib.hid hl
  have HB := Lib.hid hb
  have HWB := Lib.hid (And.intro hwb hB)
  clear hs hl hwl hwb hb hB
  obtain ⟨r, hr⟩ : ∃ r, r = fixedv ps k l := ⟨_, rfl⟩
  obtain ⟨Lr, hLr⟩ : ∃ Lr, Lr = forv l ps k m := ⟨_, rfl⟩
  have HFV : Hid (Lr = if r = true then foldv (l.map (putI k m)) else foldv l) := Lib.hid (by rw [hr, hLr]; rfl)
  rw [← hLr]
  clear hLr
  rw [← hr] at CX
  clear hr
  obtain ⟨n, hn⟩ : ∃ n, n = l.length := ⟨_, rfl⟩
  rw [← hn] at CX HP HBX HWB HC ⊢
  have HN := Lib.hid hn
  have hnb : n ≤ 1048576 := by have := HL.out; omega
  clear hn
  go_enter Tryd.func45, Tryd.ntmps45
  go_wp2_with fail
  rw [← HWB.out.1]
  refine CX.out.mono ?_; rintro e w1 ⟨rfl, hb1⟩
  rw [← HWB.out.2]
  have HW1 := Lib.hid (bel_trans HB.out hb1)
  have HB1 := Lib.hid ((Below.chg hb1).heap HBX.out (fun x => x))
  clear hb1 CX HWB HBX
  have c0 := cell_of_block HB1.out 0
  have c1 := cell_of_block HB1.out 1
  have c2 := cell_of_block HB1.out 2
  have c3 := cell_of_block HB1.out 3
  have c4 := cell_of_block HB1.out 4
  simp at c0 c1 c2 c3 c4
  cases r with
  | false =>
    have C2 := Lib.hid (HP.out w1 HW1.out)
    go_wp2_with fail
    refine C2.out.mono ?_; rintro e w2 ⟨v', rfl, ho, hn, hb2⟩
    have HO := Lib.hid (And.intro ho (And.intro (fun k hk => Nat.le_trans HW1.out.size (hn k hk)) (bel_trans HW1.out hb2)))
    clear ho hn hb2
    go_wp2_with fail
    go_ret
    rw [show Lr = foldv l by rw [HFV.out, if_neg (by decide)]]
    exact ⟨_, rfl, HO.out.1, HO.out.2.1, HO.out.2.2⟩
  | true =>
    have C2 := Lib.hid (cloneIns_any (by have h := HC.out w1 HW1.out; exact h) (by rw [insCells_length, HN.out]) (insCells_one l) (by omega))
    go_wp2_with fail
    refine C2.out.mono ?_; rintro e w2 ⟨v2, rfl, ho2, hn2, hc2⟩
    obtain ⟨_, A2, cc2, rfl⟩ := ownsRow_slice ho2
    have HO2 : Hid (w2.ownsRow 0 44 3 (.slice A2 n cc2) n (insCells ((l.take 0).map (putI k m) ++ l.drop 0))) := Lib.hid (by simpa using ho2)
    have HN2 : Hid (∀ k, (Value.slice A2 n cc2).ownBlock = some k → w.heap.size ≤ k) := Lib.hid (fun k hk => Nat.le_trans HW1.out.size (hn2 k hk))
    have HW2 : Hid (Below w.heap.size w w2) := Lib.hid (bel_trans HW1.out hc2.to_below)
    clear ho2 hn2 hc2 c0 c1 c2 c3 c4 C2
    go_wp2_with fail
    go_loopg [21] n (fun kk v wr => ∃ j : Nat, j ≤ n ∧ kk = n - j ∧ v = .int .i64 j ∧ Hid (wr.ownsRow 0 44 3 (.slice A2 n cc2) n (insCells ((l.take j).map (putI k m) ++ l.drop j))) ∧ Hid (Below w.heap.size w wr))
    case atStart => exact ⟨0, by omega, rfl, rfl, HO2, HW2⟩
    case round =>
      obtain ⟨j, hj, hk, rfl, HO, HB⟩ := hrel
      have HK := Lib.hid hk
      clear hk HO2 HW2
      by_cases hlt : j < n
      · have hjR : j < l.length := by rw [← HN.out]; exact hlt
        have hst := step_set l (putI k m) j hjR
        obtain ⟨x, hx⟩ : ∃ x, l[j] = x := ⟨_, rfl⟩
        rw [hx] at hst
        obtain ⟨lj, hlj⟩ : ∃ lj, (l.take j).map (putI k m) ++ l.drop j = lj := ⟨_, rfl⟩
        rw [hlj] at hst HO
        have hljl : lj.length = n := by rw [← hlj, List.length_append, List.length_map, List.length_take, List.length_drop]; have := HN.out; omega
        have hljx : lj[j]? = some x := by
          have hl : ((l.take j).map (putI k m)).length = j := by rw [List.length_map, List.length_take]; omega
          rw [← hlj, List.getElem?_append_right (by omega), hl, Nat.sub_self, List.getElem?_drop, Nat.add_zero, List.getElem?_eq_getElem hjR, hx]
        obtain ⟨g3, cap, e, hgl3, hcells⟩ := ownsRow_at HO.out (by omega)
        injection e with e1 e2 e3
        subst e1 e3
        have hljj : lj[j]'(by omega) = x := by
          have h := List.getElem?_eq_getElem (l := lj) (i := j) (by omega)
          rw [hljx] at h
          injection h with h
          exact h.symm
        obtain ⟨i0', i1', i2'⟩ := insCells_get lj j (by omega)
        rw [hljj] at i0' i1' i2'
        have q0 := hcells _ _ i0'
        have q1 := hcells _ _ i1'
        have q2 := hcells _ _ i2'
        have hjc : n ≤ cc2 := by
          rcases HO.out.2 with ⟨e, _⟩ | ⟨_, _, _, e, _, _, h, _⟩
          · cases e
          · injection e with _ _ e; omega
        obtain ⟨op, a, nn⟩ := x
        simp only at q0 q1 q2
        obtain ⟨wx, hwx⟩ : ∃ wx, wx = wr.alloc (.cells #[.int .i64 op, .int .i64 a, .int .i64 nn] 44) := ⟨_, rfl⟩
        have HWX : Hid (Below w.heap.size w wx) := Lib.hid (by rw [hwx]; exact HB.out.alloc HB.out.size _)
        have HOX : Hid (wx.ownsRow 0 44 3 (.slice (some ⟨g3, 0, none⟩) n cc2) n (insCells lj)) := Lib.hid (by rw [hwx]; exact ownsRow_kept HO.out ((Chg.refl (fun _ => False) wr).alloc _) (fun _ _ x => x))
        have hfz : ∀ i, wr.frozen? ⟨g3, i, none⟩ = false := fun i => by
          rcases HO.out.2 with ⟨e, _⟩ | ⟨g', _, _, e, _, hh, _⟩
          · cases e
          · injection e with e _ _
            injection e with e
            injection e with e
            subst e
            exact frozen_of_block hh _
        have hf0 := hfz (j * 3)
        have hf1 := hfz (j * 3 + 1)
        have hf2 := hfz (j * 3 + 2)
        have HG : Hid (w.heap.size ≤ g3) := Lib.hid (HN2.out g3 rfl)
        have HST := Lib.hid hst
        have HLX := Lib.hid hljx
        have HWXE := Lib.hid hwx
        clear hst hx hlj hljx hljj i0' i1' i2' hcells hjR hljl e2 hwx hfz
        have HSAME : Hid (putI k m ⟨op, a, nn⟩ = ⟨op, a, nn⟩ → (l.take (j + 1)).map (putI k m) ++ l.drop (j + 1) = lj) := Lib.hid (fun h => by
          rw [HST.out, h]
          exact set_same HLX.out)
        by_cases hcond : op = 2 ∧ a = k
        · have hpt : putI k m ⟨op, a, nn⟩ = pushR m := by unfold putI; rw [if_pos hcond]
          have HPT := Lib.hid hpt
          clear hpt
          obtain ⟨rfl, rfl⟩ := hcond
          obtain ⟨wn, hwn⟩ : ∃ wn, wn = ((wr.setCell ⟨g3, j * 3, none⟩ (.int .i64 1)).setCell ⟨g3, j * 3 + 1, none⟩ (.int .i64 0)).setCell ⟨g3, j * 3 + 2, none⟩ (.int .i64 m) := ⟨_, rfl⟩
          have hset := ownsRow_set (ownsRow_set (ownsRow_set HO.out (j * 3) (by omega) (.int .i64 1)) (j * 3 + 1) (by omega) (.int .i64 0)) (j * 3 + 2) (by omega) (.int .i64 m)
          have hput := insCells_put lj j ⟨2, a, nn⟩ (pushR m) HLX.out
          rw [← hwn] at hset
          have HRN : Hid (wn.ownsRow 0 44 3 (.slice (some ⟨g3, 0, none⟩) n cc2) n (insCells ((l.take (j + 1)).map (putI a m) ++ l.drop (j + 1)))) := Lib.hid (by
            rw [HST.out, HPT.out, hput]
            exact hset)
          have HBN : Hid (Below w.heap.size w wn) := Lib.hid (by
            rw [hwn]
            exact HB.out.trans (((((Chg.refl (fun k => w.heap.size ≤ k) wr).setCell (p := ⟨g3, j * 3, none⟩) (fun _ => HG.out) (.int .i64 1)).setCell (p := ⟨g3, j * 3 + 1, none⟩) (fun _ => HG.out) (.int .i64 0)).setCell (p := ⟨g3, j * 3 + 2, none⟩) (fun _ => HG.out) (.int .i64 m)).below (B := w.heap.size) (fun k hk => hk) HB.out.size))
          have HRX : Hid ((wn.alloc (.cells #[.int .i64 2, .int .i64 a, .int .i64 nn] 44)).ownsRow 0 44 3 (.slice (some ⟨g3, 0, none⟩) n cc2) n (insCells ((l.take (j + 1)).map (putI a m) ++ l.drop (j + 1)))) := Lib.hid (ownsRow_kept HRN.out ((Chg.refl (fun _ => False) wn).alloc _) (fun _ _ x => x))
          have HBX : Hid (Below w.heap.size w (wn.alloc (.cells #[.int .i64 2, .int .i64 a, .int .i64 nn] 44))) := Lib.hid (HBN.out.alloc HBN.out.size _)
          rw [hwn] at HRX HBX
          clear hset hput hwn
          go_wp2_with fail
          go_roundg (n - (j + 1))
          case measure => have := HK.out; omega
          case rel => exact ⟨j + 1, by omega, rfl, by go_num, HRX, HBX⟩
        · have HPT : Hid (putI k m ⟨op, a, nn⟩ = ⟨op, a, nn⟩) := Lib.hid (by unfold putI; rw [if_neg hcond])
          have HKP : Hid (wx.ownsRow 0 44 3 (.slice (some ⟨g3, 0, none⟩) n cc2) n (insCells ((l.take (j + 1)).map (putI k m) ++ l.drop (j + 1)))) := Lib.hid (by rw [HSAME.out HPT.out]; exact HOX.out)
          clear hf0 hf1 hf2
          by_cases h2 : op = 2
          · have t1 : (a == k) = false := by rw [beq_eq_false_iff_ne]; exact fun e => hcond ⟨h2, e⟩
            subst h2
            clear hcond
            go_wp2_with fail
            rw [← HWXE.out]
            go_roundg (n - (j + 1))
            case measure => have := HK.out; omega
            case rel => exact ⟨j + 1, by omega, rfl, by go_num, HKP, HWX⟩
          · have t1 : (op == 2) = false := by rw [beq_eq_false_iff_ne]; exact h2
            clear hcond
            go_wp2_with fail
            rw [← HWXE.out]
            go_roundg (n - (j + 1))
            case measure => have := HK.out; omega
            case rel => exact ⟨j + 1, by omega, rfl, by go_num, HKP, HWX⟩
      · have hjn : j = n := by omega
        have HRR : Hid (Src wr (.slice A2 n cc2) (l.map (putI k m)).length (insCells (l.map (putI k m)))) := Lib.hid (by
          have h := HO.out
          rw [hjn, HN.out, List.take_length, List.drop_length, List.append_nil] at h
          rw [List.length_map, HN.out]
          exact Src.of_row h)
        have CF := Lib.hid (fold_any HRR.out (by rw [List.length_map]; exact HL.out) (fun x hx => by
          obtain ⟨y, hy, rfl⟩ := List.mem_map.1 hx
          exact putI_wf (HWF.out y hy)))
        clear hjn
        go_wp2_with fail
        refine CF.out.mono ?_; rintro e w5 ⟨v5, rfl, ho, hn5, hb5⟩
        have HO5 := Lib.hid (And.intro ho (And.intro (fun k hk => Nat.le_trans HB.out.size (hn5 k hk)) (bel_trans HB.out hb5)))
        clear ho hn5 hb5
        go_wp2_with fail
        go_ret
        rw [show Lr = foldv (l.map (putI k m)) by rw [HFV.out]; rfl]
        exact ⟨_, rfl, HO5.out.1, HO5.out.2.1, HO5.out.2.2⟩
end Go.Proofs.YtgiegkacilfofabDoor
