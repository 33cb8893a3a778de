/- slices.Replace, where what is put in is shorter than what goes. -/
import Derived.Test.YtgiegkacilfofabDoorFoldRun
import Derived.Test.YtgiegkacilfofabDoorFoldB
namespace Go.Proofs.YtgiegkacilfofabDoor
set_option linter.unusedVariables false
set_option linter.unusedSimpArgs false
open Go.RowKit

theorem insCells_take (l : List InsR) (i : Nat) : insCells (l.take i) = (insCells l).take (i * 3) := by
  have h : insCells l = insCells (l.take i) ++ insCells (l.drop i) := by rw [← insCells_append, List.take_append_drop]
  by_cases hi : i ≤ l.length
  · have hlt : (insCells (l.take i)).length = i * 3 := by rw [insCells_length, List.length_take]; omega
    rw [h, ← hlt, List.take_left]
  · rw [List.take_of_length_le (by omega), List.take_of_length_le (by rw [insCells_length]; omega)]
theorem over_take_end (cur : List Value) (o : Nat) (cs : List Value) (h : o ≤ cur.length) : (over cur o cs).take (o + cs.length) = cur.take o ++ cs := by
  unfold over
  rw [List.take_append_of_le_length (by rw [List.length_append, List.length_take]; omega)]
  exact List.take_of_length_le (by rw [List.length_append, List.length_take]; omega)
theorem over_nil (cur : List Value) (o : Nat) : over cur o [] = cur := by simp [over]
theorem copy_src {P : Program} (w : World) (dT sT ty elem : TypeId) (sz g o dLen dCap m : Nat) (u : Value) (cur : Array Value) (t : TypeId) (cs : List Value)
    (hu : P.underlying dT = some (.slice elem)) (hs : (P.info? elem).map (·.size) = some sz)
    (hg : w.heap[g]? = some (.cells cur t (0, 0))) (hsrc : Src w u m cs) (hl : cs.length = m * sz) (hm : m ≤ dLen) (hfit : o + cs.length ≤ cur.size) (h1 : ∀ v ∈ cs, v.oneCell' = true) :
    (Builtin.copy_ #[dT, sT] ty #[.slice (some ⟨g, o, none⟩) dLen dCap, u]).run P w = .ok (goInt m) (w.setRow g (over cur.toList o cs).toArray) := by
  rcases hsrc with ⟨⟨A, c, rfl⟩, rfl, rfl⟩ | ⟨b, off, cap, rfl, hb, hnc, hc, hcs⟩
  · have e : w.setRow g (over cur.toList o []).toArray = w := by rw [over_nil]; exact setRow_self w g cur t (0, 0) hg
    rw [e]
    cases A with
    | none => exact copy_nil w dT sT ty elem _ dLen dCap c hu (by rw [hs]; rfl)
    | some ad =>
      have := copy_cells (P := P) w dT sT ty elem sz g o dLen dCap ad 0 c cur t [] hu hs hg (by simp) (by simp) (by simpa using hfit) h1
      rw [e] at this
      simpa using this
  · have := copy_cells (P := P) w dT sT ty elem sz g o dLen dCap ⟨b, off, none⟩ m cap cur t cs hu hs hg (by rw [hl, show Nat.min m dLen = m from Nat.min_eq_left hm]) (fun j v hv => by
      have e : (⟨b, off, none⟩ : Addr).add j = ⟨b, off + j, none⟩ := by unfold Addr.add; split <;> simp_all
      rw [e]
      exact hcs j v hv) hfit h1
    rwa [show Nat.min m dLen = m from Nat.min_eq_left hm] at this

def repl (l : List InsR) (i j : Nat) (bs : List InsR) : List InsR := l.take i ++ bs ++ l.drop j
theorem repl_length (l : List InsR) (i j : Nat) (bs : List InsR) (hi : i ≤ l.length) (hj : j ≤ l.length) : (repl l i j bs).length = i + bs.length + (l.length - j) := by simp [repl]; omega
theorem zeroIns (w : World) : (zeroValue 44).run Tryd.prog w = .ok (.agg #[.int .i64 0, .int .i64 0, .int .i64 0]) w := by kernel_rfl
theorem sizeIns : (Tryd.prog.info? 44).map (·.size) = some 3 := by kernel_rfl

set_option maxHeartbeats 4000000 in
set_option maxRecDepth 100000 in
theorem repl_any {w : World} {V : Value} {l : List InsR} (i j : Nat) (bs : List InsR) (u : Value) (hij : i + bs.length < j) (hj : j ≤ l.length) (hV : w.ownsRow 0 44 3 V l.length (insCells l)) (hu : Src w u bs.length (insCells bs)) (hl : l.length ≤ 5864062014634) :
    Calls Tryd.prog 77 #[V, .int .i64 i, .int .i64 j, u] w fun e w' => ∃ v', e = .returned v' ∧ w'.ownsRow 0 44 3 v' (repl l i j bs).length (insCells (repl l i j bs)) ∧ v'.ownBlock = V.ownBlock ∧ Chg (fun k => V.ownBlock = some k) w w' := by
  obtain ⟨n, hn⟩ : ∃ n, n = l.length := ⟨_, rfl⟩
  obtain ⟨m, hm⟩ : ∃ m, m = bs.length := ⟨_, rfl⟩
  obtain ⟨_, hb0 | ⟨g, cap, cur, rfl, _, hh, h1, h2, h3, h4⟩⟩ := id hV
  · omega
  obtain ⟨_, uA, uc, rfl⟩ := hu.bound
  have h2' := h2
  unfold maxLen at h2'
  rw [← hn] at hV hj hl h1 h4
  rw [← hm] at hij hu
  have HV := Lib.hid hV
  have HU := Lib.hid hu
  have HH := Lib.hid hh
  have HC := Lib.hid (And.intro h2 (And.intro h3 h4))
  have HN := Lib.hid hn
  have HM := Lib.hid hm
  have hbl : (insCells bs).length = m * 3 := by rw [insCells_length, hm]
  have hll : (insCells l).length = n * 3 := by rw [insCells_length, hn]
  have HBL := Lib.hid (And.intro hbl hll)
  obtain ⟨R, hR⟩ : ∃ R, repl l i j bs = R := ⟨_, rfl⟩
  have HR := Lib.hid hR
  rw [hR, ← hn, ← hm]
  clear hV hu hh h2 h3 h4 hn hm hbl hll hR
  have hij2 : ((i : Int) == (j : Int)) = false := beq_eq_false_iff_ne.2 (by omega)
  have hfin : ∀ (W : World) (L : List Value) (tot : Nat), tot = R.length → tot ≤ cap → W.heap[g]? = some (.cells L.toArray 44 (0, 0)) → L.length = cap * 3 → L.take (tot * 3) = insCells R → W.ownsRow 0 44 3 (.slice (some ⟨g, 0, none⟩) tot cap) tot (insCells R) := fun W L tot ht hc hh hl hk =>
    ⟨by rw [insCells_length, ht], .inr ⟨g, cap, L.toArray, rfl, Nat.zero_le _, hh, hc, HC.out.1, by simpa using hl, by simpa using hk⟩⟩
  have HFIN := Lib.hid hfin
  clear hfin
  have hsz : cur.size = cap * 3 := HC.out.2.1
  have htk : cur.toList.take (i * 3) = insCells (l.take i) := by
    rw [insCells_take, ← HC.out.2.2, List.take_take]
    congr 1
    omega
  obtain ⟨L1, hL1⟩ : ∃ L1, L1 = over cur.toList (i * 3) (insCells bs) := ⟨_, rfl⟩
  have hl1 : L1.length = cap * 3 := by rw [hL1, over_length _ _ _ (by rw [HBL.out.1, Array.length_toList]; omega), Array.length_toList, hsz]
  have hk1 : L1.take ((i + m) * 3) = insCells (l.take i) ++ insCells bs := by
    have h := over_take_end cur.toList (i * 3) (insCells bs) (by rw [Array.length_toList]; omega)
    rw [HBL.out.1, htk, ← hL1] at h
    rw [← h]
    congr 1
    omega
  have hg1 : ∀ k, (i + m) * 3 ≤ k → L1[k]? = cur[k]? := fun k hk => by
    rw [hL1, over_get _ _ _ (by rw [HBL.out.1, Array.length_toList]; omega), if_neg (by omega), if_neg (by rw [HBL.out.1]; omega), Array.getElem?_toList]
  by_cases hjn : j = n
  · subst hjn
    obtain ⟨w1, hw1⟩ : ∃ w1, w1 = w.setRow g L1.toArray := ⟨_, rfl⟩
    have hh1 : w1.heap[g]? = some (.cells L1.toArray 44 (0, 0)) := by rw [hw1]; exact setRow_heap w g _ _ _ _ HH.out
    have hc1 : Chg (fun k => k = g) w w1 := by rw [hw1]; exact (Chg.refl (fun k => k = g) w).setRow (fun _ => rfl) _
    obtain ⟨i0, hi, hz0, hz1, hz2⟩ := info_parts infoIns
    have happ := app_room (P := Tryd.prog) w 32 32 44 i0 3 Tryd.underlying32 hi hz1 g i cap cur HH.out (.slice uA m uc) m (insCells bs) HU.out HBL.out.1 (insCells_one _) (by omega) (by rw [HBL.out.1]; omega)
    rw [← hL1, ← hw1] at happ
    have HAP := Lib.hid happ
    obtain ⟨zs, hzl, hcl⟩ := clear_cells (P := Tryd.prog) w1 32 44 0 (.agg #[.int .i64 0, .int .i64 0, .int .i64 0]) Tryd.underlying32 (zeroIns w1) (by simp [Value.cells, Value.oneCell']) g ((i + m) * 3) (j - (i + m)) (cap - (i + m)) (by omega) L1.toArray 44 hh1 (by simp [Value.cells]; omega)
    simp [Value.cells] at hzl
    obtain ⟨L2, hL2⟩ : ∃ L2, L2 = over L1.toArray.toList ((i + m) * 3) zs := ⟨_, rfl⟩
    obtain ⟨w2, hw2⟩ : ∃ w2, w2 = w1.setRow g L2.toArray := ⟨_, rfl⟩
    rw [← hL2, ← hw2] at hcl
    have hl2 : L2.length = cap * 3 := by rw [hL2, over_length _ _ _ (by simp; omega)]; simpa using hl1
    have hk2 : L2.take ((i + m) * 3) = insCells R := by
      rw [hL2, over_take _ _ _ _ (Nat.le_refl _) (by simp; omega)]
      show L1.take _ = _
      rw [hk1, ← HR.out]
      unfold repl
      rw [List.drop_of_length_le (by have := HN.out; omega), List.append_nil, insCells_append]
    have HEND := Lib.hid (HFIN.out w2 L2 (i + m) (by rw [← HR.out, repl_length _ _ _ _ (by have := HN.out; omega) (by have := HN.out; omega), ← HN.out, ← HM.out]; omega) (by omega) (by rw [hw2]; exact setRow_heap w1 g _ _ _ _ hh1) hl2 hk2)
    have HCH : Hid (Chg (fun k => k = g) w w2) := Lib.hid (by rw [hw2]; exact hc1.then ((Chg.refl (fun k => k = g) w1).setRow (fun _ => rfl) _))
    have HRL : Hid (R.length = i + m) := Lib.hid (by rw [← HR.out, repl_length _ _ _ _ (by have := HN.out; omega) (by have := HN.out; omega), ← HN.out, ← HM.out]; omega)
    clear hl1 hk1 hg1 hh1 hc1 hL1 hw1 happ hzl hL2 hw2 hl2 hk2 htk hsz hi hz0 hz1 hz2
    go_enter Tryd.func77, Tryd.ntmps77
    go_wp2_with (at_builtin; refine wpList_app_of rfl _ _ 32 rfl (.slice (some ⟨g, 0, none⟩) i cap) (.slice uA m uc) rfl rfl HAP.out ?_)
    go_ret
    rw [HRL.out]
    exact ⟨_, rfl, HEND.out, rfl, HCH.out.mono (fun _ _ e => by subst e; rfl)⟩
  · obtain ⟨d, hd⟩ : ∃ d, n - j = d := ⟨_, rfl⟩
    have hnd : n = j + d := by omega
    obtain ⟨wd, hwd⟩ : ∃ wd, wd = w.drew := ⟨_, rfl⟩
    have hHd : wd.heap[g]? = some (.cells cur 44 (0, 0)) := by rw [hwd]; exact HH.out
    have hUd : Src wd (.slice uA m uc) m (insCells bs) := by rw [hwd]; exact HU.out.kept (Chg.refl (fun _ => False) w).drew (.inr (fun _ _ x => x))
    obtain ⟨w1, hw1⟩ : ∃ w1, w1 = wd.setRow g L1.toArray := ⟨_, rfl⟩
    have hh1 : w1.heap[g]? = some (.cells L1.toArray 44 (0, 0)) := by rw [hw1]; exact setRow_heap wd g _ _ _ _ hHd
    have hc1 : Chg (fun k => k = g) w w1 := by rw [hw1, hwd]; exact (Chg.refl (fun k => k = g) w).drew.setRow (fun _ => rfl) _
    obtain ⟨w1d, hw1d⟩ : ∃ w1d, w1d = w1.drew := ⟨_, rfl⟩
    have hh1d : w1d.heap[g]? = some (.cells L1.toArray 44 (0, 0)) := by rw [hw1d]; exact hh1
    have hd0 : 0 < d := by omega
    have hic : i ≤ cap := by omega
    have himd : i + m ≤ i + m + d := by omega
    have hjc : j ≤ cap := by omega
    have HND := Lib.hid hnd
    have hcp1 : ∀ ty, (Builtin.copy_ #[32, 32] ty #[.slice (some ⟨g, i * 3, none⟩) (i + m + d - i) (cap - i), .slice uA m uc]).run Tryd.prog wd = .ok (goInt m) w1 := fun ty => by
      have h := copy_src (P := Tryd.prog) wd 32 32 ty 44 3 g (i * 3) (i + m + d - i) (cap - i) m (.slice uA m uc) cur 44 (insCells bs) Tryd.underlying32 sizeIns hHd hUd HBL.out.1 (by omega) (by rw [HBL.out.1]; omega) (insCells_one _)
      rw [← hL1, ← hw1] at h
      exact h
    obtain ⟨L2, hL2⟩ : ∃ L2, L2 = over L1.toArray.toList ((i + m) * 3) (insCells (l.drop j)) := ⟨_, rfl⟩
    obtain ⟨w2, hw2⟩ : ∃ w2, w2 = w1d.setRow g L2.toArray := ⟨_, rfl⟩
    have hdl : (insCells (l.drop j)).length = d * 3 := by rw [insCells_length, List.length_drop, ← HN.out, ← hd]
    have hcp2 : ∀ ty, (Builtin.copy_ #[32, 32] ty #[.slice (some ⟨g, (i + m) * 3, none⟩) (i + m + d - (i + m)) (cap - (i + m)), .slice (some ⟨g, j * 3, none⟩) d (cap - j)]).run Tryd.prog w1d = .ok (goInt (Nat.min d (i + m + d - (i + m)))) w2 := fun ty => by
      have h := copy_cells (P := Tryd.prog) w1d 32 32 ty 44 3 g ((i + m) * 3) (i + m + d - (i + m)) (cap - (i + m)) ⟨g, j * 3, none⟩ d (cap - j) L1.toArray 44 (insCells (l.drop j)) Tryd.underlying32 sizeIns hh1d (by rw [hdl, show i + m + d - (i + m) = d by omega, show Nat.min d d = d from Nat.min_self d]) (fun k v hv => by
        have hk : k < d * 3 := by have := (List.getElem?_eq_some_iff.1 hv).1; rwa [hdl] at this
        have e1 : (⟨g, j * 3, none⟩ : Addr).add k = ⟨g, j * 3 + k, none⟩ := by unfold Addr.add; split <;> simp_all
        rw [e1, cell_of_block hh1d, List.getElem?_toArray]
        rw [hg1 _ (by omega)]
        rw [insCells_drop, List.getElem?_drop, ← HC.out.2.2, List.getElem?_take_of_lt (by omega), Array.getElem?_toList] at hv
        exact hv) (by rw [hdl]; simp; omega) (insCells_one _)
      rw [← hL2, ← hw2] at h
      exact h
    have hl2 : L2.length = cap * 3 := by rw [hL2, over_length _ _ _ (by rw [hdl]; simp; omega)]; simpa using hl1
    have hk2 : L2.take ((i + m + d) * 3) = insCells R := by
      have h := over_take_end L1.toArray.toList ((i + m) * 3) (insCells (l.drop j)) (by simp; omega)
      rw [← hL2, hdl] at h
      rw [show (i + m + d) * 3 = (i + m) * 3 + d * 3 by omega, h]
      show L1.take _ ++ _ = _
      rw [hk1, ← HR.out]
      unfold repl
      rw [insCells_append, insCells_append]
    have hh2 : w2.heap[g]? = some (.cells L2.toArray 44 (0, 0)) := by rw [hw2]; exact setRow_heap w1d g _ _ _ _ hh1d
    have hc2 : Chg (fun k => k = g) w w2 := by rw [hw2, hw1d]; exact hc1.then ((Chg.refl (fun k => k = g) w1).drew.setRow (fun _ => rfl) _)
    obtain ⟨zs, hzl, hcl⟩ := clear_cells (P := Tryd.prog) w2 32 44 0 (.agg #[.int .i64 0, .int .i64 0, .int .i64 0]) Tryd.underlying32 (zeroIns w2) (by simp [Value.cells, Value.oneCell']) g ((i + m + d) * 3) (n - (i + m + d)) (cap - (i + m + d)) (by omega) L2.toArray 44 hh2 (by simp [Value.cells]; omega)
    simp [Value.cells] at hzl
    obtain ⟨L3, hL3⟩ : ∃ L3, L3 = over L2.toArray.toList ((i + m + d) * 3) zs := ⟨_, rfl⟩
    obtain ⟨w3, hw3⟩ : ∃ w3, w3 = w2.setRow g L3.toArray := ⟨_, rfl⟩
    rw [← hL3, ← hw3] at hcl
    have hl3 : L3.length = cap * 3 := by rw [hL3, over_length _ _ _ (by simp; omega)]; simpa using hl2
    have hk3 : L3.take ((i + m + d) * 3) = insCells R := by
      rw [hL3, over_take _ _ _ _ (Nat.le_refl _) (by simp; omega)]
      exact hk2
    have hrl : R.length = i + m + d := by rw [← HR.out, repl_length _ _ _ _ (by have := HN.out; omega) (by have := HN.out; omega), ← HN.out, ← HM.out]; omega
    have HEND := Lib.hid (HFIN.out w3 L3 (i + m + d) hrl.symm (by omega) (by rw [hw3]; exact setRow_heap w2 g _ _ _ _ hh2) hl3 hk3)
    have HCH : Hid (Chg (fun k => k = g) w w3) := Lib.hid (by rw [hw3]; exact hc2.then ((Chg.refl (fun k => k = g) w2).setRow (fun _ => rfl) _))
    have HRL := Lib.hid hrl
    have HCP1 := Lib.hid hcp1
    have HCP2 := Lib.hid hcp2
    have hjI : ((j : Int) == (n : Int)) = false := beq_eq_false_iff_ne.2 (by omega)
    clear hHd hUd hh1d hl1 hk1 hg1 hh1 hc1 hL1 hw1 hzl hL2 hw2 hl2 hk2 hh2 hc2 hL3 hw3 hl3 hk3 htk hsz hcp1 hcp2 hdl hrl hnd
    go_enter Tryd.func77, Tryd.ntmps77
    go_upto_region 9 with fail
    refine wp_region_ord (S := fun _ => True) (N := fun i => true) (by kernel_rfl) [(0, true), (1, true), (2, true), (3, true), (4, true), (5, true), (6, true), (7, true), (8, true), (9, true), (10, true), (11, true), (12, true)] (by kernel_rfl) ?_
    rw [← hwd]
    clear hwd
    iterate 13 (refine ord_look rfl trivial rfl (by intro w hS; go_simp; with_reducible rfl) (fun c a w h => h) ?_; simp only [Act.put, List.setIfInBounds_toArray, List.set_cons_succ, List.set_cons_zero])
    refine ord_end ?_
    have hx1 := HCP1.out 3
    go_upto_region 18 with fail
    clear hx1
    obtain ⟨sm, hsm⟩ : ∃ sm, sm = i + m := ⟨_, rfl⟩
    have hwr : IntKind.i64.wrap ((i : Int) + (m : Int)) = (sm : Int) := by rw [IntKind.wrap_i64]; omega
    have hs0 : (0 : Int) ≤ (sm : Int) := by omega
    have hs1 : (sm : Int) ≤ (i : Int) + (m : Int) + (d : Int) := by omega
    have hs2 : ¬ cap = sm := by omega
    have hx2 : ∀ ty, (Builtin.copy_ #[32, 32] ty #[.slice (some ⟨g, sm * 3, none⟩) (i + m + d - sm) (cap - sm), .slice (some ⟨g, j * 3, none⟩) d (cap - j)]).run Tryd.prog w1d = .ok (goInt (Nat.min d (i + m + d - (i + m)))) w2 := by rw [hsm]; exact HCP2.out
    have HX2 := Lib.hid hx2
    clear hx2 hsm
    refine wp_region_ord (S := fun _ => True) (N := fun i => true) (by kernel_rfl) [(0, true), (1, true), (2, true), (3, true), (4, true), (5, true), (6, true), (7, true), (8, true), (9, false)] (by kernel_rfl) ?_
    rw [← hw1d]
    clear hw1d
    iterate 9 (refine ord_look rfl trivial rfl (by intro w hS; go_simp; with_reducible rfl) (fun c a w h => h) ?_; simp only [Act.put, List.setIfInBounds_toArray, List.set_cons_succ, List.set_cons_zero])
    refine ord_act rfl rfl (fun K hK => ?_)
    refine wp_copy_of _ _ _ 32 32 rfl (.slice (some ⟨g, sm * 3, none⟩) (i + m + d - sm) (cap - sm)) (.slice (some ⟨g, j * 3, none⟩) d (cap - j)) rfl rfl (HX2.out _) ?_
    refine hK _ _ ⟨fun _ => trivial, ?_⟩
    clear hK K hwr hs0 hs1 hs2
    simp only [Act.put, List.setIfInBounds_toArray, List.set_cons_succ, List.set_cons_zero]
    refine ord_end ?_
    go_wp2_with fail
    go_ret
    rw [HRL.out]
    exact ⟨_, rfl, HEND.out, rfl, HCH.out.mono (fun _ _ e => by subst e; rfl)⟩
end Go.Proofs.YtgiegkacilfofabDoor
