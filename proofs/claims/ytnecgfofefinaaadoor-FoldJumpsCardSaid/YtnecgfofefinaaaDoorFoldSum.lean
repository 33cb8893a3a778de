/- FoldSum. -/
import Derived.Test.YtnecgfofefinaaaDoorFoldRd
import Derived.Test.YtnecgfofefinaaaDoorLaid
import Derived.Test.YtnecgfofefinaaaDoorRowCap
import Derived.Deep.AppendLies
namespace Go.Proofs.YtnecgfofefinaaaDoor
set_option linter.unusedVariables false
set_option linter.unusedSimpArgs false
open Go.RowKit

def addI : InsR := ⟨6, 0, 0⟩
def retI : InsR := ⟨18, 0, 0⟩
def sumL (z : Int) (zs : List Int) : List InsR := pushR z :: zs.flatMap fun x => [pushR x, addI]
def sumV (z : Int) (zs : List Int) : Int := zs.foldl (fun s x => wrap64 (s + x)) z
theorem sumL_len (z : Int) (zs : List Int) : (sumL z zs).length = 1 + 2 * zs.length := by
  unfold sumL
  induction zs with
  | nil => rfl
  | cons x zs ih => simp only [List.flatMap_cons, List.length_cons, List.length_append, List.length_nil] at ih ⊢; omega
theorem sumL_snoc (z : Int) (zs : List Int) (x : Int) : sumL z (zs ++ [x]) = sumL z zs ++ [pushR x, addI] := by simp [sumL]
theorem sumL_mem {z : Int} {zs : List Int} {y : InsR} (h : y ∈ sumL z zs ++ [retI]) : jumpsv y = false ∧ y.a = 0 := by
  simp only [sumL, List.cons_append, List.mem_cons, List.mem_append, List.mem_flatMap, List.not_mem_nil, or_false] at h
  rcases h with h | h | h
  · rw [h]; exact ⟨by simp [jumpsv, pushR], rfl⟩
  · obtain ⟨x, _, h | h⟩ := h <;> rw [h] <;> exact ⟨by simp [jumpsv, pushR, addI], rfl⟩
  · rw [h]; exact ⟨by simp [jumpsv, retI], rfl⟩
theorem free_of {l : List InsR} (h : ∀ y ∈ l, jumpsv y = false) (k : Nat) (hk : k < l.length) : freev l k = true := by
  have h2 : l.any (hitv (k : Int)) = false := by
    rw [List.any_eq_false]
    intro y hy
    simp [hitv, h y hy]
  unfold freev
  rw [h2]
  simp
  omega
theorem replv_plain {l : List InsR} (h : ∀ y ∈ l, jumpsv y = false) (i many : Nat) (bs : List InsR) (hb : ∀ y ∈ bs, jumpsv y = false) : replv l i many bs = l.take i ++ bs ++ l.drop (i + many) := by
  unfold replv repl
  conv => rhs; rw [← List.map_id (l.take i ++ bs ++ l.drop (i + many))]
  refine List.map_congr_left fun y hy => ?_
  have hj : jumpsv y = false := by
    simp only [List.mem_append] at hy
    rcases hy with (hy | hy) | hy
    · exact h y (List.mem_of_mem_take hy)
    · exact hb y hy
    · exact h y (List.mem_of_mem_drop hy)
  unfold fixA
  rw [if_neg (by simp [hj])]
  rfl
theorem sum_fold : ∀ (zs : List Int) (z : Int), foldv (sumL z zs ++ [retI]) = [pushR (sumV z zs), retI]
  | [], z => by
    refine foldv_none (firstRule_not fun j hj => ?_)
    match j, hj with
    | 0, _ =>
      have hf : freev [pushR z, retI] 1 = true := free_of (fun y hy => (sumL_mem (z := z) (zs := []) hy).1) 1 (by simp [sumL])
      simp [ruleV, sumL, pushR, retI, behindV] at hf ⊢
    | 1, _ => simp [ruleV, sumL, pushR, retI]
  | x :: zs, z => by
    have hm : ∀ y ∈ sumL z (x :: zs) ++ [retI], jumpsv y = false := fun y hy => (sumL_mem hy).1
    have hlen : 3 ≤ (sumL z (x :: zs) ++ [retI]).length := by rw [List.length_append, sumL_len]; simp; omega
    have f1 := free_of hm 1 (by omega)
    have f2 := free_of hm 2 (by omega)
    have hr : ruleV (sumL z (x :: zs) ++ [retI]) 0 = some (sumL (wrap64 (z + x)) zs ++ [retI]) := by
      have e : (sumL z (x :: zs) ++ [retI]) = pushR z :: pushR x :: addI :: (zs.flatMap (fun x => [pushR x, addI]) ++ [retI]) := by simp [sumL]
      have hp := replv_plain hm 0 3 [pushR (wrap64 (z + x))] (fun y hy => by rw [List.mem_singleton.1 hy]; simp [jumpsv, pushR])
      rw [e] at f1 f2 hp ⊢
      simp only [ruleV, List.getElem?_cons_zero]
      rw [if_neg (by simp [pushR]), if_pos ⟨rfl, f1⟩]
      simp only [Nat.zero_add, List.getElem?_cons_succ, List.getElem?_cons_zero]
      unfold behindV
      rw [if_neg (by simp [pushR]), if_neg (by simp [pushR]), if_neg (by simp [pushR]), if_neg (by
        intro h
        rcases h with h | h
        · exact h rfl
        · have f2' : freev (pushR z :: pushR x :: addI :: (zs.flatMap (fun x => [pushR x, addI]) ++ [retI])) (((0 : Nat) : Int) + 2) = true := f2
          rw [f2'] at h; cases h)]
      simp only [Nat.zero_add, List.getElem?_cons_succ, List.getElem?_cons_zero]
      rw [if_neg (by simp [addI])]
      have hd : doV (addI.op + 2) (pushR z).n (pushR x).n = (wrap64 (z + x), true) := by simp [doV, addI, pushR]
      rw [hd, if_pos rfl, hp]
      simp [sumL]
    rw [foldv_some (firstRule_at (by omega) hr (fun j hj => by omega))]
    exact sum_fold zs (wrap64 (z + x))
theorem sum_wf (z : Int) (zs : List Int) : ∀ y ∈ sumL z zs ++ [retI], WfI y := fun y hy => ⟨by rw [(sumL_mem hy).2]; unfold In64; omega⟩

set_option maxHeartbeats 4000000 in
set_option maxRecDepth 100000 in
theorem foldSum_walk (W : World) (A : Option Addr) (n c : Nat) (zs : List Int) (hL : SortsIs W) (hc : n ≤ c ∧ c ≤ maxLen) (hr : IntRow .i64 W A n zs) (hn8 : n * 8 ≤ 140737488351232) :
    Calls Tryd.prog 5 #[.slice A n c] W fun e w' => e = .returned (.bool true) ∧ Below W.heap.size W w' := by
  have hc1 := hc.1
  have hc2 := hc.2
  unfold maxLen at hc2
  have CS := Lib.hid (shown_any hL)
  have HR := Lib.hid hr
  clear hr hL hc
  obtain ⟨i0, hi, hz0, hz1, hz2⟩ := info_parts infoIns
  obtain ⟨m, hm⟩ : ∃ m : Nat, m = if n < 30 then n else 30 := ⟨_, rfl⟩
  have hmi : min (n : Int) 30 = (m : Int) := by rw [hm]; split <;> omega
  have hmn : m ≤ n := by rw [hm]; split <;> omega
  have hm30 : m ≤ 30 := by rw [hm]; split <;> omega
  have hm0 : n = 0 → m = 0 := fun h => by omega
  clear hm
  go_enter Tryd.func5, Tryd.ntmps5
  go_wp2_with fail
  refine CS.out.mono ?_; rintro e w1 ⟨rfl, hb1⟩
  have HB1 := Lib.hid hb1
  clear hb1 CS
  by_cases h0 : m = 0
  · subst h0
    have CF : Hid (Calls Tryd.prog 10 #[.slice none 0 0] w1 fun e w' => ∃ A2 c2, e = .returned (.slice A2 0 c2) ∧ Below w1.heap.size w1 w') := Lib.hid (by
      refine (fold_any (l := []) (src_none w1) (by decide) (fun x hx => by cases hx)).mono ?_
      rintro e w' ⟨v', rfl, ho, _, hb⟩
      obtain ⟨_, A2, c2, rfl⟩ := ownsRow_slice ho
      exact ⟨A2, c2, rfl, hb⟩)
    go_wp2_with fail
    refine CF.out.mono ?_; rintro e w2 ⟨A2, c2, rfl, hb2⟩
    have HB2 := Lib.hid (bel_trans HB1.out hb2)
    clear hb2
    go_wp2_with fail
    go_ret
    exact ⟨rfl, HB2.out⟩
  · have hmp : 0 < m := by omega
    obtain ⟨b, off, hA, hcell⟩ := HR.out.at_ (by omega)
    subst hA
    have HCE : Hid (∀ w', Below W.heap.size W w' → ∀ j, j < n → w'.cell? ⟨b, off + j, none⟩ = some (.int .i64 (zs.getD j 0))) := Lib.hid (fun w' hb j hj => (Below.chg hb).cell (hcell j hj) (fun x => x))
    clear hcell
    obtain ⟨z0, hz0'⟩ : ∃ z0, z0 = zs.getD 0 0 := ⟨_, rfl⟩
    have d0 := HCE.out w1 HB1.out 0 (by omega)
    rw [Nat.add_zero, ← hz0'] at d0
    have d1 : (w1.alloc (.cells #[.int .i64 1, .int .i64 0, .int .i64 z0] 32)).cell? ⟨b, off, none⟩ = some (.int .i64 z0) := cell_alloc d0 _
    have HZ : Hid (zs = z0 :: zs.drop 1) := Lib.hid (by
      have hl := HR.out.length
      obtain ⟨y, ys, e⟩ := List.exists_cons_of_length_pos (l := zs) (by omega)
      rw [hz0', e]; rfl)
    have hm0' : ((m : Int) == 0) = false := by rw [beq_eq_false_iff_ne]; omega
    clear hz0'
    have HB2 : Hid (Below W.heap.size W (w1.alloc (.cells #[.int .i64 1, .int .i64 0, .int .i64 z0] 32))) := Lib.hid (HB1.out.alloc HB1.out.size _)
    have HRW : Hid ((w1.alloc (.cells #[.int .i64 1, .int .i64 0, .int .i64 z0] 32)).ownsRow 0 32 3 (.slice (some ⟨w1.heap.size, 0, none⟩) 1 1) 1 (insCells (sumL z0 ((zs.drop 1).take 0)))) := Lib.hid ⟨rfl, .inr ⟨w1.heap.size, 1, _, rfl, Nat.zero_le _, heap_new _ _, Nat.le_refl _, by unfold maxLen; omega, rfl, rfl⟩⟩
    have HOB : Hid (∀ k, (Value.slice (some ⟨w1.heap.size, 0, none⟩) 1 1).ownBlock = some k → W.heap.size ≤ k) := Lib.hid (fun k hk => by
      obtain rfl : w1.heap.size = k := by injection hk
      exact HB1.out.size)
    go_wp2_with fail
    go_loopg [4, 5, 6] (m - 1) (fun k V S i wr => ∃ j ln : Nat, 1 ≤ j ∧ j ≤ m ∧ k = m - j ∧ i = .int .i64 j ∧ ln = 2 * j - 1 ∧ (∃ AV cV, V = .slice AV ln cV) ∧ S = .int .i64 (sumV z0 ((zs.drop 1).take (j - 1))) ∧ Hid (wr.ownsRow 0 32 3 V ln (insCells (sumL z0 ((zs.drop 1).take (j - 1))))) ∧ Hid (∀ k, V.ownBlock = some k → W.heap.size ≤ k) ∧ Hid (Below W.heap.size W wr))
    case atStart => exact ⟨1, 1, by omega, by omega, by omega, rfl, by omega, ⟨_, _, rfl⟩, rfl, HRW, HOB, HB2⟩
    case round =>
      obtain ⟨j, ln, hj1, hj, hk, rfl, hln, ⟨AV, cV, rfl⟩, rfl, HO, HOB, HW⟩ := hrel
      have HK := Lib.hid hk
      have hlb : ln ≤ 60 := by omega
      have HLN := Lib.hid hln
      clear hk hln HB1 HB2 HRW d0 d1
      obtain ⟨s, hs⟩ : ∃ s, s = sumV z0 ((zs.drop 1).take (j - 1)) := ⟨_, rfl⟩
      rw [← hs]
      have HS := Lib.hid hs
      clear hs
      by_cases hlt : j < m
      · obtain ⟨x, hx⟩ : ∃ x, x = zs.getD j 0 := ⟨_, rfl⟩
        have d2 := HCE.out wr HW.out j (by omega)
        rw [← hx] at d2
        have HTK : Hid ((zs.drop 1).take j = (zs.drop 1).take (j - 1) ++ [x]) := Lib.hid (by
          have hl := HR.out.length
          have h1 : j - 1 < (zs.drop 1).length := by rw [List.length_drop]; omega
          have h2 : j = j - 1 + 1 := by omega
          conv => lhs; rw [h2]
          rw [List.take_succ_eq_append_getElem h1, hx, List.getElem_drop, List.getD_eq_getElem?_getD, List.getElem?_eq_getElem (by omega)]
          congr 2
          simp only [Option.getD_some]
          congr 1
          omega)
        have HX := Lib.hid hx
        clear hx
        obtain ⟨wx, hwx⟩ : ∃ wx, wx = wr.alloc (.cells #[.int .i64 1, .int .i64 0, .int .i64 x, .int .i64 6, .int .i64 0, .int .i64 0] 32) := ⟨_, rfl⟩
        have HCX : Hid (Chg (fun k => W.heap.size ≤ k) wr wx) := Lib.hid (by rw [hwx]; exact (Chg.refl _ _).alloc _)
        have HROWX : Hid (wx.ownsRow 0 32 3 (.slice AV ln cV) ln (insCells (sumL z0 ((zs.drop 1).take (j - 1))))) := Lib.hid (by rw [hwx]; exact ownsRow_kept HO.out ((Chg.refl (fun _ => False) _).alloc _) (fun _ _ e => e))
        have HNEW : Hid (∀ (j : Nat) u, ([.int .i64 1, .int .i64 0, .int .i64 x, .int .i64 6, .int .i64 0, .int .i64 0] : List Value)[j]? = some u → wx.cell? ((⟨wr.heap.size, 0, none⟩ : Addr).add j) = some u) := Lib.hid (World.news_of_block (cs := #[.int .i64 1, .int .i64 0, .int .i64 x, .int .i64 6, .int .i64 0, .int .i64 0]) (t := 32) (fr := (0, 0)) (by rw [hwx]; exact heap_new _ _))
        have HSZ : Hid (wx.heap.size = wr.heap.size + 1) := Lib.hid (by rw [hwx]; simp)
        have HWX := Lib.hid hwx
        clear hwx
        go_wp2_with (at_builtin; rw [← HWX.out]; refine wpList_append_lies _ rfl _ _ _ rfl 0 32 i0 _ 3 24 Tryd.underlying22 hi hz0 hz1 hz2 rfl (by omega) (.slice AV ln cV) ln (insCells (sumL z0 ((zs.drop 1).take (j - 1)))) rfl HROWX.out ⟨wr.heap.size, 0, none⟩ 2 2 [.int .i64 1, .int .i64 0, .int .i64 x, .int .i64 6, .int .i64 0, .int .i64 0] rfl rfl HNEW.out (by simp [Value.oneCell']) (by omega) (by unfold maxLen; omega) (by omega) (by omega) (wr.heap.size + 1) HSZ.out ?_; intro g2 cap2 w2 hown2 hgrow2 hat2 hlt2; have HW2 : Hid (Below W.heap.size W w2) := Lib.hid (HW.out.trans ((HCX.out.grownBy hgrow2 (fun k hk _ => HOB.out k hk)).below (B := W.heap.size) (fun k hk => hk) HW.out.size)); have d3 := HCE.out w2 HW2.out j (by omega); rw [← HX.out] at d3)
        go_roundg (m - (j + 1))
        case measure => have := HK.out; omega
        case rel =>
          refine ⟨j + 1, ln + 2, by omega, by omega, rfl, by go_num, by have := HLN.out; omega, ⟨_, _, rfl⟩, ?_, Lib.hid ?_, Lib.hid ?_, HW2⟩
          · rw [Nat.add_sub_cancel, HTK.out, sumV, List.foldl_append, HS.out]
            rfl
          · rw [Nat.add_sub_cancel, HTK.out, sumL_snoc]
            have : insCells (sumL z0 ((zs.drop 1).take (j - 1)) ++ [pushR x, addI]) = insCells (sumL z0 ((zs.drop 1).take (j - 1))) ++ [.int .i64 1, .int .i64 0, .int .i64 x, .int .i64 6, .int .i64 0, .int .i64 0] := by simp [insCells, InsR.cells, pushR, addI]
            rw [this]
            exact hown2
          · intro k hk
            obtain rfl : g2 = k := by injection hk
            rcases hat2 with h | h
            · exact HOB.out _ h
            · have := HW.out.size; omega
      · have HJM : Hid (j = m) := Lib.hid (by omega)
        have HTA : Hid ((zs.drop 1).take (j - 1) = (zs.drop 1).take (m - 1)) := Lib.hid (by rw [HJM.out])
        obtain ⟨wx, hwx⟩ : ∃ wx, wx = wr.alloc (.cells #[.int .i64 18, .int .i64 0, .int .i64 0] 32) := ⟨_, rfl⟩
        have HCX : Hid (Chg (fun k => W.heap.size ≤ k) wr wx) := Lib.hid (by rw [hwx]; exact (Chg.refl _ _).alloc _)
        have HROWX : Hid (wx.ownsRow 0 32 3 (.slice AV ln cV) ln (insCells (sumL z0 ((zs.drop 1).take (j - 1))))) := Lib.hid (by rw [hwx]; exact ownsRow_kept HO.out ((Chg.refl (fun _ => False) _).alloc _) (fun _ _ e => e))
        have HNEW : Hid (∀ (j : Nat) u, ([.int .i64 18, .int .i64 0, .int .i64 0] : List Value)[j]? = some u → wx.cell? ((⟨wr.heap.size, 0, none⟩ : Addr).add j) = some u) := Lib.hid (World.news_of_block (cs := #[.int .i64 18, .int .i64 0, .int .i64 0]) (t := 32) (fr := (0, 0)) (by rw [hwx]; exact heap_new _ _))
        have HSZ : Hid (wx.heap.size = wr.heap.size + 1) := Lib.hid (by rw [hwx]; simp)
        have HWX := Lib.hid hwx
        clear hwx
        have HLL : Hid ((sumL z0 ((zs.drop 1).take (j - 1)) ++ [retI]).length = ln + 1) := Lib.hid (by
          have hl := HR.out.length
          rw [List.length_append, sumL_len, List.length_take, List.length_drop, HLN.out]
          simp only [List.length_singleton]
          omega)
        have CF : Hid (∀ wq g cap, Below W.heap.size W wq → wq.ownsRow 0 32 3 (.slice (some ⟨g, 0, none⟩) (ln + 1) cap) (ln + 1) (insCells (sumL z0 ((zs.drop 1).take (j - 1))) ++ [.int .i64 18, .int .i64 0, .int .i64 0]) → Calls Tryd.prog 10 #[.slice (some ⟨g, 0, none⟩) (ln + 1) cap] wq fun e w' => ∃ b2 o2 c2, e = .returned (.slice (some ⟨b2, o2, none⟩) 2 c2) ∧ 2 ≤ c2 ∧ (w'.cell? ⟨b2, o2, none⟩ = some (.int .i64 1) ∧ w'.cell? ⟨b2, o2 + 1, none⟩ = some (.int .i64 0) ∧ w'.cell? ⟨b2, o2 + 2, none⟩ = some (.int .i64 s) ∧ w'.cell? ⟨b2, o2 + 3, none⟩ = some (.int .i64 18) ∧ w'.cell? ⟨b2, o2 + 4, none⟩ = some (.int .i64 0) ∧ w'.cell? ⟨b2, o2 + 5, none⟩ = some (.int .i64 0)) ∧ Below W.heap.size W w') := Lib.hid (by
          intro wq g cap hbq ho
          have hc : insCells (sumL z0 ((zs.drop 1).take (j - 1))) ++ [.int .i64 18, .int .i64 0, .int .i64 0] = insCells (sumL z0 ((zs.drop 1).take (j - 1)) ++ [retI]) := by simp [insCells, InsR.cells, retI]
          rw [hc] at ho
          have hsrc := Src.of_row ho
          refine (fold_any (l := sumL z0 ((zs.drop 1).take (j - 1)) ++ [retI]) (by rw [HLL.out]; exact hsrc) (by rw [HLL.out]; omega) (sum_wf _ _)).mono ?_
          rintro e w' ⟨v', rfl, ho2, _, hb2⟩
          rw [sum_fold, ← HS.out] at ho2
          have hs2 := Src.of_row ho2
          rcases hs2 with ⟨_, h0, _⟩ | ⟨b2, o2, c2, rfl, _, hc2, _, hcell⟩
          · cases h0
          exact ⟨b2, o2, c2, rfl, hc2, ⟨hcell 0 _ rfl, hcell 1 _ rfl, hcell 2 _ rfl, hcell 3 _ rfl, hcell 4 _ rfl, hcell 5 _ rfl⟩, bel_trans hbq hb2⟩)
        go_wp2_with (at_builtin; rw [← HWX.out]; refine wpList_append_lies _ rfl _ _ _ rfl 0 32 i0 _ 3 24 Tryd.underlying22 hi hz0 hz1 hz2 rfl (by omega) (.slice AV ln cV) ln (insCells (sumL z0 ((zs.drop 1).take (j - 1)))) rfl HROWX.out ⟨wr.heap.size, 0, none⟩ 1 1 [.int .i64 18, .int .i64 0, .int .i64 0] rfl rfl HNEW.out (by simp [Value.oneCell']) (by omega) (by unfold maxLen; omega) (by omega) (by omega) (wr.heap.size + 1) HSZ.out ?_; intro g2 cap2 w2 hown2 hgrow2 hat2 hlt2; have HW2 : Hid (Below W.heap.size W w2) := Lib.hid (HW.out.trans ((HCX.out.grownBy hgrow2 (fun k hk _ => HOB.out k hk)).below (B := W.heap.size) (fun k hk => hk) HW.out.size)); have CF2 := Lib.hid (CF.out w2 g2 cap2 HW2.out hown2))
        refine CF2.out.mono ?_; rintro e w3 ⟨b2, o2, c2, rfl, hc2, ⟨p0, p1, p2, p3, p4, p5⟩, hb3⟩
        have HB3 := Lib.hid hb3
        clear hb3
        go_wp2_with fail
        go_ret
        exact ⟨rfl, HB3.out⟩
end Go.Proofs.YtnecgfofefinaaaDoor
