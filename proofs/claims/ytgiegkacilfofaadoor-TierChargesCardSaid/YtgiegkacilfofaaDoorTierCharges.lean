/- law19: TierCharges. -/
import Derived.Test.YtgiegkacilfofaaDoorTG3
import Derived.Test.YtgiegkacilfofaaDoorTG2
namespace Go.Proofs.YtgiegkacilfofaaDoor
set_option linter.unusedVariables false
set_option linter.unusedSimpArgs false
open Go.RowKit Go.Conc

theorem sumW_bound {fs : List FnR} (hf : ∀ f ∈ fs, f.l.length ≤ 60) : ∀ l : List (Int × Int), 0 ≤ sumW fs l ∧ sumW fs l ≤ 120 * (l.length : Int)
  | [] => by unfold sumW; simp
  | e :: l => by
    have h := sumW_bound hf l
    have h1 : sumW fs (e :: l) = evW fs e + sumW fs l := by unfold sumW; simp
    have h2 : 0 ≤ evW fs e ∧ evW fs e ≤ 120 := by
      unfold evW
      split
      · have : (fs.getD e.2.toNat tFn).l.length ≤ 60 := by
          rw [List.getD_eq_getElem?_getD]
          rcases hq : fs[e.2.toNat]? with _ | f
          · simp [tFn]
          · exact hf f (List.mem_of_getElem? hq)
        omega
      · split <;> omega
    rw [h1, List.length_cons]
    omega

set_option maxHeartbeats 8000000 in
set_option maxRecDepth 100000 in
theorem tierCharges_walk (W : World) (fs : List FnR) (cs : List Value) (AP : Option Addr) (cP : Nat) (pub : List (List Bool)) (q : Int) (A3 : Option Addr) (c3 : Nat) (picks : List Int) (A4 : Option Addr) (c4 : Nat) (asks : List AskR) (hL : TxtIs W) (hf : rdCode.K W fs cs) (hp : PubAt W AP cP pub) (wq : (Lit.int .i64 q).wf = true) (hk : NumsAt W A3 c3 picks) (ha : AsksAt W A4 c4 asks) :
    Calls Tryd.prog 5 #[.agg cs.toArray, .slice AP pub.length cP, .int .i64 q, .slice A3 picks.length c3, .slice A4 asks.length c4] W fun e w' => e = .returned (.bool true) ∧ Below W.heap.size W w' := by
  have hf : CodeAt W fs cs := hf
  obtain ⟨A, c, rfl, hfs, hfull⟩ := hf
  simp only [List.toArray]
  obtain ⟨wa, hwa⟩ : ∃ z, z = W.alloc (.cells #[.slice A fs.length c] 24) := ⟨_, rfl⟩
  obtain ⟨Q1, hQ1⟩ : ∃ z, z = W.heap.size := ⟨_, rfl⟩
  have ca : Chg (fun _ => False) W wa := by rw [hwa]; exact (Chg.refl _ _).alloc _
  have x1 : wa.heap[Q1]? = some (.cells #[.slice A fs.length c] 24 (0, 0)) := by rw [hwa]; exact heap_new' hQ1.symm
  obtain ⟨nk, hnk⟩ : ∃ z, z = picks.length := ⟨_, rfl⟩
  obtain ⟨na, hna⟩ : ∃ z, z = asks.length := ⟨_, rfl⟩
  rw [← hnk, ← hna]
  obtain ⟨kf, hkf⟩ : ∃ z, z = fs.length := ⟨_, rfl⟩
  rw [← hkf] at hwa x1 hfs ⊢
  have hnk63 : nk ≤ 9223372036854775807 := by have := hk.2.2; omega
  have hna63 : na ≤ 9223372036854775807 := by have h1 := ha.1; have h2 := ha.2.1; unfold maxLen at h2; omega
  have HN := Lib.hid (And.intro hnk (And.intro hna hkf))
  have HFS := Lib.hid (And.intro hfs hfull)
  have HPU := Lib.hid hp
  have HPK := Lib.hid hk
  have HAS := Lib.hid ha
  have HX := Lib.hid x1
  have HBA : Hid (Below W.heap.size W wa) := Lib.hid ca.to_below
  have CS := Lib.hid (tshown_any (hL.keep ca.to_below))
  have HW := Lib.hid (And.intro hwa hQ1)
  clear hfs hfull hp hk ha x1 ca hwa hQ1 hnk hna hkf hL
  go_enter Tryd.func5, Tryd.ntmps5
  go_wp2_with fail
  rw [← HW.out.1, ← HW.out.2]
  refine CS.out.mono ?_
  rintro e wb ⟨rfl, hbb⟩
  have HBB : Hid (Below W.heap.size W wb) := Lib.hid (HBA.out.trans (hbb.mono HBA.out.size))
  have hxb := (Below.chg hbb).heap HX.out (fun x => x)
  have y1 := cell_of_block hxb 0
  simp at y1
  have CF := Lib.hid (tfew_any (HFS.out.1.keep HBB.out) HN.out.2.2)
  have HXB := Lib.hid hxb
  clear hbb CS HX hxb
  go_wp2_with fail
  refine CF.out.mono ?_
  rintro e wc ⟨VF, rfl, hfi, hbc⟩
  obtain ⟨_, AF, cF, rfl⟩ := hfi.bound
  have hxc := (Below.chg hbc).heap HXB.out (fun x => x)
  obtain ⟨wf, hwf⟩ : ∃ z, z = wc.setCell ⟨Q1, 0, none⟩ (.slice AF (tfewv fs).length cF) := ⟨_, rfl⟩
  have hset : Chg (fun k => k = Q1) wc wf := by rw [hwf]; exact Chg.set_cell (w := wc) ⟨Q1, 0, none⟩ _
  have hxf : wf.heap[Q1]? = some (.cells #[.slice AF (tfewv fs).length cF] 24 (0, 0)) := by rw [hwf]; exact heap_set hxc 0 _
  have HFI := Lib.hid (hfi.chgQ hxc hset)
  have HBF : Hid (Below W.heap.size W wf) := Lib.hid ((HBB.out.trans (hbc.mono HBB.out.size)).trans (hset.below (fun k e => by have e : k = Q1 := e; have := HW.out.2; omega) (Nat.le_trans HBB.out.size hbc.size)))
  have HWF := Lib.hid hwf
  have HXF := Lib.hid hxf
  have y1 := cell_of_block hxc 0
  have yf := frozen_of_block hxc 0
  simp at y1
  clear hfi hbc hwf hset hxc hxf CF
  go_upto_region 3 with fail
  rw [← HWF.out]
  clear y1 yf
  obtain ⟨m2, hm2⟩ : ∃ m2 : Nat, (if (200 : Int) < (nk : Int) then (200 : Int) else (nk : Int)) = (m2 : Int) := ⟨(if (200 : Int) < (nk : Int) then (200 : Int) else (nk : Int)).toNat, by split <;> omega⟩
  have hm2l : m2 ≤ nk ∧ m2 ≤ 200 := by split at hm2 <;> omega
  have hm3 : min (nk : Int) 200 = (m2 : Int) := by split at hm2 <;> omega
  obtain ⟨S, hS⟩ : ∃ S : World → Prop, S = fun w' => w'.cell? ⟨Q1, 0, none⟩ = some (.slice AF (tfewv fs).length cF) := ⟨_, rfl⟩
  have HSE := Lib.hid hS
  have HSB : Hid (∀ w', Below wf.heap.size wf w' → S w') := Lib.hid (by
    intro w' hb
    rw [hS]
    exact (Below.chg hb).cell (cell_of_block HXF.out 0) (fun x => x))
  obtain ⟨wd, hwd⟩ : ∃ z, z = wf.drew := ⟨_, rfl⟩
  have hcd : Chg (fun _ => False) wf wd := by rw [hwd]; exact (Chg.refl _ _).drew
  have hSd := HSB.out wd hcd.to_below
  have hsm := tfewv_small HFS.out.2
  have hpk := HPK.out.keep (HBF.out.trans (hcd.below (fun _ x => x.elim) HBF.out.size))
  obtain ⟨fv, hfv⟩ : ∃ z, z = (tfewv fs).length := ⟨_, rfl⟩
  have HFV := Lib.hid hfv
  have hpc : nk ≤ c3 ∧ c3 ≤ maxLen := by obtain ⟨_, h1, h2, _⟩ := hpk.1.get; rw [HN.out.1]; exact ⟨h1, h2⟩
  have CN : Calls Tryd.prog 8 #[.agg #[.slice AF (tfewv fs).length cF], .slice AP pub.length cP, .int .i64 q, .slice A3 m2 c3] wd fun e w' => ∃ v, e = .returned v ∧ ∃ m g x, v = .pointer (some ⟨m, 0, none⟩) ∧ TM wf w' g m (clampc q) 0 x ⟨tfewv fs, pub, picks.take m2, [], fun _ => none, []⟩ := by
    refine (tnew_any (fs := tfewv fs) (pub := pub) (picks := picks.take m2) q (HFI.out.keep hcd.to_below) (HPU.out.keep (HBF.out.trans (hcd.below (fun _ x => x.elim) HBF.out.size))).1 (hpk.1.take m2 (by rw [← HN.out.1]; exact hm2l.1)) (by omega) (by have := hsm.1; omega) (fun f hf => ⟨by have := (hsm.2 f hf).1; omega, (hsm.2 f hf).2.1⟩) HPU.out.2.1 HPU.out.2.2 (fun z hz => HPK.out.2.1 z (List.mem_of_mem_take hz))).mono ?_
    rintro e w' ⟨m, g, x, rfl, htc, hlo, hb⟩
    exact ⟨_, rfl, m, g, x, rfl, htc, tinv_new _ _ _ _, fun k hk => Nat.le_trans hcd.size (hlo k hk), hcd.to_below.trans (hb.mono hcd.size)⟩
  have hc3 : m2 ≤ c3 := by have := hpc.1; omega
  have hc63 : c3 ≤ 9223372036854775807 := by have := hpc.2; unfold maxLen at this; omega
  rw [← hfv] at CN HSE ⊢
  clear hcd hsm hpk hfv hS
  refine wp_region_ord (S := S) (N := fun i => true) (by kernel_rfl) [(0, true), (1, true), (2, true), (3, true), (4, true), (5, true), (6, true), (7, true), (8, false), (9, true)] (by kernel_rfl) ?_
  rw [← hwd]
  clear hwd
  iterate 8 (refine ord_look rfl hSd rfl (by intro w hS; rw [HSE.out] at hS; go_simp; with_reducible rfl) (fun c a w h => h) ?_; simp only [Act.put, List.setIfInBounds_toArray, List.set_cons_succ, List.set_cons_zero])
  refine ord_act rfl rfl (fun K hK => ?_)
  refine wp_call 8 _ _ Tryd.func8 rfl (by kernel_rfl) _ _ rfl #[.agg #[.slice AF fv cF], .slice AP pub.length cP, .int .i64 q, .slice A3 m2 c3] (by simp [Act.eval]) (calls_ret CN (by rintro e w1 ⟨v', rfl, h⟩; exact ⟨_, rfl, h⟩)) ?_
  rintro v we ⟨m, g0, x, rfl, hM⟩
  have hSe := HSB.out we hM.bel
  refine hK _ _ ⟨fun _ => hSe, ?_⟩
  clear hK K hSd CN
  have HM0 := Lib.hid hM
  clear hM
  try simp only [Act.put, List.setIfInBounds_toArray, List.set_cons_succ, List.set_cons_zero]
  refine ord_look rfl hSe rfl (by intro w hS; go_simp; with_reducible rfl) (fun c a w h => h) ?_; simp only [Act.put, List.setIfInBounds_toArray, List.set_cons_succ, List.set_cons_zero]
  refine ord_end ?_
  clear hSe
  go_wp2_with fail
  go_loopg [13] (na + 1) (fun z i wr => ∃ (t np : Nat) (g : Nat → Nat) (T : TS), t ≤ na ∧ t ≤ 100 ∧ z = na + 1 - t ∧ i = .int .i64 t ∧ np ≤ 10 * t ∧ Hid (TM wf wr g m (clampc q) np x T) ∧ Hid (T.fs = tfewv fs))
  case atStart => exact ⟨0, 0, g0, _, by omega, by omega, rfl, rfl, by omega, HM0, Lib.hid rfl⟩
  case round =>
    clear HM0
    obtain ⟨t, np, g, T, ht, ht2, hz2, rfl, hnp, HM, HTF⟩ := hrel
    have HZ2 := Lib.hid hz2
    clear hz2
    by_cases hlt : t < na ∧ t < 100
    · have htl : t < asks.length := by rw [← HN.out.2.1]; exact hlt.1
      obtain ⟨b, off, rfl, hcs⟩ := HAS.out.2.2 (by omega)
      obtain ⟨A1, d1, A2, d2, k0, k1, _, n1, _⟩ := hcs t asks[t] (List.getElem?_eq_getElem htl)
      obtain ⟨⟨fn, args, oth⟩, hak⟩ : ∃ z, z = asks[t] := ⟨_, rfl⟩
      rw [← hak] at k0 k1 n1
      simp only at k0 k1 n1
      obtain ⟨ln, hln⟩ : ∃ z, z = args.length := ⟨_, rfl⟩
      rw [← hln] at k1
      clear hcs hak
      have h1 := hlt.1
      have h2 := hlt.2
      clear hlt
      obtain ⟨S2, hS⟩ : ∃ S : World → Prop, S = fun w' => w'.cell? ⟨b, off + t * 3, none⟩ = some (.int .i64 fn) ∧ w'.cell? ⟨b, off + t * 3 + 1, none⟩ = some (.slice A1 ln d1) := ⟨_, rfl⟩
      have HSA : Hid (∀ w', Below wf.heap.size wf w' → S2 w') := Lib.hid (by
        intro w' hb
        rw [hS]
        have hb := HBF.out.trans (hb.mono HBF.out.size)
        exact ⟨(Below.chg hb).cell k0 (fun x => x), (Below.chg hb).cell k1 (fun x => x)⟩)
      have HSE2 := Lib.hid hS
      have CV := Lib.hid (HM.out.events (by omega))
      have hev := HM.out.tc.small.2.2
      obtain ⟨m1, hm1⟩ : ∃ z, z = T.evs.length := ⟨_, rfl⟩
      rw [← hm1] at hev
      have HA := Lib.hid (And.intro n1 (And.intro hln hm1))
      clear hS n1 k0 k1 hln
      go_wp2_with fail
      refine CV.out.mono ?_
      rintro e wv ⟨VE, rfl, hrow, _, hMv, _⟩
      rw [← hm1] at hrow
      obtain ⟨_, A7, c7, rfl⟩ := ownsRow_slice hrow
      have HMV := Lib.hid hMv
      clear hrow hMv CV hm1
      go_upto_region 10 with fail
      obtain ⟨wq, hwq⟩ : ∃ z, z = wv.drew := ⟨_, rfl⟩
      have hcd : Chg (fun _ => False) wv wq := by rw [hwq]; exact (Chg.refl _ _).drew
      have hMq := HMV.out.kept hcd
      have hSq := HSA.out _ hMq.bel
      have hns : NumSrc wq (.slice A1 ln d1) args := by have h := HA.out.1.1.keep (HBF.out.trans (hMq.bel.mono HBF.out.size)); rw [← HA.out.2.1] at h; exact h
      obtain ⟨⟨⟨body, fa, chv⟩, T2⟩, hEn⟩ : ∃ z, z = enterV (clampc q) T fn args := ⟨_, rfl⟩
      obtain ⟨new, hnew⟩ := enter_chd HM.out.inv HM.out.tc.capok.1 fn args
      rw [← hEn] at hnew
      obtain ⟨bl, hbl⟩ : ∃ z, z = body.length := ⟨_, rfl⟩
      have CE : Calls Tryd.prog 9 #[.pointer (some ⟨m, 0, none⟩), .int .i64 fn, .slice A1 ln d1] wq fun e w' => ∃ v, e = .returned v ∧ ∃ A5 c5 g', v = .tuple #[.slice A5 bl c5, .bool fa, .int .i64 chv] ∧ TM wf w' g' m (clampc q) (np + 10) x T2 := by
        refine (hMq.enter hns fn (by omega)).mono ?_
        rintro e w' ⟨VB, g', rfl, h1, h2, h3, _, _⟩
        rw [← hEn] at h1 h3 ⊢
        simp only at h1
        rw [← hbl] at h1
        obtain ⟨_, A5, c5, rfl⟩ := ownsRow_slice h1
        exact ⟨_, rfl, A5, c5, g', rfl, h3⟩
      have HNW := Lib.hid (And.intro hnew (And.intro hbl hEn))
      clear hcd hMq hns hnew hbl hEn
      refine wp_region_ord (S := S2) (N := fun i => true) (by kernel_rfl) [(0, true), (1, true), (2, true), (3, true), (4, true), (5, true), (6, true), (7, true), (8, true), (9, true), (10, true), (11, false), (12, true), (13, true), (14, true), (15, true), (16, true), (17, true), (18, true)] (by kernel_rfl) ?_
      rw [← hwq]
      clear hwq
      iterate 11 (refine ord_look rfl hSq rfl (by intro w hS; rw [HSE2.out] at hS; obtain ⟨s1, s2⟩ := hS; go_simp; with_reducible rfl) (fun c a w h => h) ?_; simp only [Act.put, List.setIfInBounds_toArray, List.set_cons_succ, List.set_cons_zero])
      refine ord_act rfl rfl (fun K hK => ?_)
      refine wp_call 9 _ _ Tryd.func9 rfl (by kernel_rfl) _ _ rfl #[.pointer (some ⟨m, 0, none⟩), .int .i64 fn, .slice A1 ln d1] (by simp [Act.eval]) (calls_ret CE (by rintro e w1 ⟨v', rfl, h⟩; exact ⟨_, rfl, h⟩)) ?_
      rintro v we ⟨A5, c5, g', rfl, hMe⟩
      have hSe := HSA.out _ hMe.bel
      refine hK _ _ ⟨fun _ => hSe, ?_⟩
      clear hK K hSq CE
      have HME := Lib.hid hMe
      clear hMe
      try simp only [Act.put, List.setIfInBounds_toArray, List.set_cons_succ, List.set_cons_zero]
      iterate 7 (refine ord_look rfl hSe rfl (by intro w hS; go_simp; with_reducible rfl) (fun c a w h => h) ?_; simp only [Act.put, List.setIfInBounds_toArray, List.set_cons_succ, List.set_cons_zero])
      refine ord_end ?_
      clear hSe
      have CV := Lib.hid (HME.out.events (by omega))
      go_wp2_with fail
      refine CV.out.mono ?_
      rintro e wy ⟨VE2, rfl, hrow, _, hMy, _⟩
      obtain ⟨nw, hnw⟩ : ∃ z, z = new.length := ⟨_, rfl⟩
      have hnw3 : nw ≤ 3 := by rw [hnw]; exact HNW.out.1.len
      have he2 : T2.evs = T.evs ++ new := HNW.out.1.evs
      have hl2 : T2.evs.length = m1 + nw := by rw [he2, List.length_append, ← HA.out.2.2, hnw]
      rw [hl2, he2] at hrow
      obtain ⟨n2, hn2⟩ : ∃ z, z = m1 + nw := ⟨_, rfl⟩
      rw [← hn2] at hrow
      obtain ⟨_, A8, c8, rfl⟩ := ownsRow_slice hrow
      have HMY := Lib.hid hMy
      have HROW := Lib.hid hrow
      have HNN := Lib.hid (And.intro hnw hn2)
      have h12 : m1 ≤ n2 := by omega
      have h13 : n2 ≤ m1 + 3 := by omega
      clear hMy hrow he2 hl2 CV hnw hn2
      go_wp2_with fail
      have hm1k : m1 ≤ 1048576 := by omega
      obtain ⟨_, hfl2⟩ := tfewv_small HFS.out.2
      have HFL := Lib.hid hfl2
      have e101 : decide (n2 < m1) = false := decide_eq_false (by omega)
      have e102 : decide ((m1 : Int) + 3 < (n2 : Int)) = false := decide_eq_false (by omega)
      simp only [e101, e102, Bool.false_or]
      clear e101 e102
      clear hfl2 h12 h13
      go_loopg [19, 20, 21] (nw + 1) (fun z a bo i wr => ∃ r p : Nat, r ≤ nw ∧ z = nw + 1 - r ∧ p = m1 + r ∧ (∃ sm : Int, a = .int .i64 sm ∧ 0 ≤ sm ∧ sm ≤ 1000 ∧ Hid (sm = sumW (tfewv fs) (new.take r))) ∧ (∃ bb, bo = .bool bb ∧ Hid (bb = (new.take r).any (fun e => e.1 == 2))) ∧ i = .int .i64 (p : Int) ∧ Hid (TM wf wr g' m (clampc q) (np + 10) x T2) ∧ Hid (wr.ownsRow 0 44 2 (.slice A8 n2 c8) n2 (evCells (T.evs ++ new))))
      case atStart => exact ⟨0, m1, by omega, rfl, rfl, ⟨0, rfl, by omega, by omega, Lib.hid rfl⟩, ⟨false, rfl, Lib.hid rfl⟩, rfl, HMY, HROW⟩
      case round =>
        clear HMY HROW
        obtain ⟨r, p, hr, hz3, hp, ⟨sm, rfl, hs0, hs1, HSM⟩, ⟨bb, rfl, HAN⟩, rfl, HMR, HRR⟩ := hrel
        have HZ3 := Lib.hid hz3
        clear hz3
        have HPP := Lib.hid hp
        by_cases hrl : r < nw
        · have hpn : p < n2 := by have := HNN.out.2; omega
          have hrn : r < new.length := by rw [← HNN.out.1]; exact hrl
          have hok := HNW.out.1.ok new[r] (List.getElem_mem _)
          have hget : new[r]? = some new[r] := List.getElem?_eq_getElem hrn
          have hgt : (T.evs ++ new)[p]? = some new[r] := by rw [hp, List.getElem?_append_right (by rw [← HA.out.2.2]; omega), ← HA.out.2.2, Nat.add_sub_cancel_left]; exact hget
          have htk : new.take (r + 1) = new.take r ++ [new[r]] := List.take_succ_eq_append_getElem hrn
          obtain ⟨gE, cE, hsl, hgl, hcell⟩ := ownsRow_at HRR.out (by omega)
          clear hp
          injection hsl with e1 _ e3
          subst e1 e3
          obtain ⟨v0, v1⟩ := evCells_get _ _ _ hgt
          have v0 := hcell _ _ v0
          have v1 := hcell _ _ v1
          obtain ⟨⟨k, f2⟩, hev2⟩ : ∃ z, z = new[r] := ⟨_, rfl⟩
          rw [← hev2] at hok v0 v1 htk
          clear hev2 hget hgt hcell
          obtain ⟨⟨hk1, hk4⟩, ⟨hf1, hf2⟩, hown⟩ := hok
          rw [HTF.out, ← HFV.out] at hf2
          simp only at hk1 hk4 hf1 hf2 hown v0 v1
          obtain ⟨fi, rfl⟩ : ∃ n : Nat, f2 = n := ⟨f2.toNat, by omega⟩
          have hfi : fi < (tfewv fs).length := by rw [← HFV.out]; omega
          obtain ⟨bF, oF, capF, BF, cBF, e, hbF, hcapF, ⟨_, _, _, _, w4⟩, _⟩ := (HFI.out.keep HMR.out.bel).get fi hfi
          injection e with e1 e3 e2
          subst e1 e2
          clear e3
          have y1 := (Below.chg HMR.out.bel).cell (cell_of_block HXF.out 0) (fun x => x)
          simp at y1
          obtain ⟨lF, hlF⟩ : ∃ z, z = ((tfewv fs)[fi]).l.length := ⟨_, rfl⟩
          have hlF60 : lF ≤ 60 := by rw [hlF]; exact (HFL.out _ (List.getElem_mem _)).1
          have HEW : Hid (∀ kk : Int, evW (tfewv fs) (kk, (fi : Int)) = if kk = 1 then 2 * (lF : Int) else if kk = 3 then 50 else 0) := Lib.hid (by
            intro kk
            unfold evW
            simp only [Int.toNat_natCast]
            rw [List.getD_eq_getElem?_getD, List.getElem?_eq_getElem hfi, hlF]
            rfl)
          rw [← hlF] at w4
          rw [← HFV.out] at y1 hcapF hfi
          have hsx := HSA.out _ HMR.out.bel
          rw [HSE2.out] at hsx
          obtain ⟨hb1, hb2⟩ := hsx
          obtain ⟨wp, hwp⟩ : ∃ z, z = wr.alloc (.cells #[.int .i64 k, .int .i64 fi] 44) := ⟨_, rfl⟩
          obtain ⟨P, hP⟩ : ∃ z, z = wr.heap.size := ⟨_, rfl⟩
          have d1 : Chg (fun _ => False) wr wp := by rw [hwp]; exact (Chg.refl _ _).alloc _
          have p1 : wp.heap[P]? = some (.cells #[.int .i64 k, .int .i64 fi] 44 (0, 0)) := by rw [hwp]; exact heap_new' hP.symm
          have HWP := Lib.hid (And.intro hwp hP)
          have HMP := Lib.hid (HMR.out.kept d1)
          have HRP := Lib.hid (ownsRow_kept HRR.out d1 (fun _ _ x => x))
          have HTK := Lib.hid htk
          have u0 := cell_of_block p1 0
          have u1 := cell_of_block p1 1
          have y1' := d1.cell y1 (fun x => x)
          have w4' := d1.cell w4 (fun x => x)
          have hb1' := d1.cell hb1 (fun x => x)
          simp at u0 u1
          clear hwp hP d1 p1 htk hbF hlF hb1 hb2
          go_upto_region 20 with fail
          rw [← HWP.out.1, ← HWP.out.2]
          clear v0 v1 y1 w4
          have hkk : k = 1 ∨ k = 2 ∨ k = 3 ∨ k = 4 := by omega
          rcases hkk with rfl | rfl | rfl | rfl
          · have ho : (fi : Int) = fn := by rcases hown with h | h; (exact absurd h (by decide)); exact h
            subst ho
            clear hown hk1 hk4
            have hsn : sm + 2 * (lF : Int) = sumW (tfewv fs) (new.take (r + 1)) := by
              rw [HTK.out, sumW_append, ← HSM.out]
              have h := HEW.out 1
              simp at h
              unfold sumW
              simp [h]
            have hsb := sumW_bound (fun f hf => (HFL.out f hf).1) (new.take (r + 1))
            have hsl : (new.take (r + 1)).length ≤ 3 := by rw [List.length_take]; omega
            rw [← hsn] at hsb
            have hs2 : 0 ≤ sm + 2 * (lF : Int) ∧ sm + 2 * (lF : Int) ≤ 1000 := by omega
            have HSN := Lib.hid hsn
            have HAN2 : Hid (bb = (new.take (r + 1)).any (fun e => e.1 == 2)) := Lib.hid (by rw [HTK.out, List.any_append, ← HAN.out]; simp)
            clear hsn hsb hsl HAN HSM
            go_quiet (fail)
            go_wp2_with fail
            go_roundg (nw + 1 - (r + 1))
            case measure => have := HZ3.out; omega
            case rel => exact ⟨r + 1, p + 1, by omega, rfl, by have := HPP.out; omega, ⟨sm + 2 * (lF : Int), by go_num, hs2.1, hs2.2, HSN⟩, ⟨bb, rfl, HAN2⟩, by go_num, Lib.hid (HMP.out.kept ((Chg.refl _ _).drewN _)), Lib.hid (ownsRow_kept HRP.out ((Chg.refl (fun _ => False) _).drewN _) (fun _ _ x => x))⟩
          · have ho : (fi : Int) = fn := by rcases hown with h | h; (exact absurd h (by decide)); exact h
            subst ho
            clear hown hk1 hk4
            have hsn : sm = sumW (tfewv fs) (new.take (r + 1)) := by
              rw [HTK.out, sumW_append, ← HSM.out]
              have h := HEW.out 2
              simp at h
              unfold sumW
              simp [h]
            have hsb := sumW_bound (fun f hf => (HFL.out f hf).1) (new.take (r + 1))
            have hsl : (new.take (r + 1)).length ≤ 3 := by rw [List.length_take]; omega
            rw [← hsn] at hsb
            have hs2 : 0 ≤ sm ∧ sm ≤ 1000 := by omega
            have HSN := Lib.hid hsn
            have HAN2 : Hid (true = (new.take (r + 1)).any (fun e => e.1 == 2)) := Lib.hid (by rw [HTK.out, List.any_append, ← HAN.out]; simp)
            clear hsn hsb hsl HAN HSM
            go_quiet (fail)
            go_wp2_with fail
            go_roundg (nw + 1 - (r + 1))
            case measure => have := HZ3.out; omega
            case rel => exact ⟨r + 1, p + 1, by omega, rfl, by have := HPP.out; omega, ⟨sm, by go_num, hs2.1, hs2.2, HSN⟩, ⟨true, rfl, HAN2⟩, by go_num, Lib.hid (HMP.out.kept ((Chg.refl _ _).drewN _)), Lib.hid (ownsRow_kept HRP.out ((Chg.refl (fun _ => False) _).drewN _) (fun _ _ x => x))⟩
          · have ho : (fi : Int) = fn := by rcases hown with h | h; (exact absurd h (by decide)); exact h
            subst ho
            clear hown hk1 hk4
            have hsn : sm + 50 = sumW (tfewv fs) (new.take (r + 1)) := by
              rw [HTK.out, sumW_append, ← HSM.out]
              have h := HEW.out 3
              simp at h
              unfold sumW
              simp [h]
            have hsb := sumW_bound (fun f hf => (HFL.out f hf).1) (new.take (r + 1))
            have hsl : (new.take (r + 1)).length ≤ 3 := by rw [List.length_take]; omega
            rw [← hsn] at hsb
            have hs2 : 0 ≤ sm + 50 ∧ sm + 50 ≤ 1000 := by omega
            have HSN := Lib.hid hsn
            have HAN2 : Hid (bb = (new.take (r + 1)).any (fun e => e.1 == 2)) := Lib.hid (by rw [HTK.out, List.any_append, ← HAN.out]; simp)
            clear hsn hsb hsl HAN HSM
            go_quiet (fail)
            go_wp2_with fail
            go_roundg (nw + 1 - (r + 1))
            case measure => have := HZ3.out; omega
            case rel => exact ⟨r + 1, p + 1, by omega, rfl, by have := HPP.out; omega, ⟨sm + 50, by go_num, hs2.1, hs2.2, HSN⟩, ⟨bb, rfl, HAN2⟩, by go_num, Lib.hid (HMP.out.kept ((Chg.refl _ _).drewN _)), Lib.hid (ownsRow_kept HRP.out ((Chg.refl (fun _ => False) _).drewN _) (fun _ _ x => x))⟩
          · clear hown hk1 hk4
            have hsn : sm = sumW (tfewv fs) (new.take (r + 1)) := by
              rw [HTK.out, sumW_append, ← HSM.out]
              have h := HEW.out 4
              simp at h
              unfold sumW
              simp [h]
            have hsb := sumW_bound (fun f hf => (HFL.out f hf).1) (new.take (r + 1))
            have hsl : (new.take (r + 1)).length ≤ 3 := by rw [List.length_take]; omega
            rw [← hsn] at hsb
            have hs2 : 0 ≤ sm ∧ sm ≤ 1000 := by omega
            have HSN := Lib.hid hsn
            have HAN2 : Hid (bb = (new.take (r + 1)).any (fun e => e.1 == 2)) := Lib.hid (by rw [HTK.out, List.any_append, ← HAN.out]; simp)
            clear hsn hsb hsl HAN HSM
            obtain ⟨fz, hfz⟩ : ∃ z : Int, z = (fi : Int) := ⟨_, rfl⟩
            rw [← hfz] at u1 hf1 hf2
            clear hfz
            obtain ⟨wd, hwd⟩ : ∃ z, z = wp.drew := ⟨_, rfl⟩
            have hcd : Chg (fun _ => False) wp wd := by rw [hwd]; exact (Chg.refl _ _).drew
            have hSd : wd.cell? ⟨P, 1, none⟩ = some (.int .i64 fz) ∧ wd.cell? ⟨P, 0, none⟩ = some (.int .i64 4) ∧ wd.cell? ⟨Q1, 0, none⟩ = some (.slice (some ⟨bF, oF, none⟩) fv cF) := ⟨hcd.cell u1 (fun x => x), hcd.cell u0 (fun x => x), hcd.cell y1' (fun x => x)⟩
            have HMP4 := Lib.hid (HMP.out.kept hcd)
            have HRP4 := Lib.hid (ownsRow_kept HRP.out hcd (fun _ _ x => x))
            clear hcd u0 u1 y1' w4' hb1'
            refine wp_region_ord (S := fun w' => w'.cell? ⟨P, 1, none⟩ = some (.int .i64 fz) ∧ w'.cell? ⟨P, 0, none⟩ = some (.int .i64 4) ∧ w'.cell? ⟨Q1, 0, none⟩ = some (.slice (some ⟨bF, oF, none⟩) fv cF)) (N := fun i => true) (by kernel_rfl) [(0, true), (1, true), (2, true), (3, true), (4, true), (5, true), (6, true), (7, true), (8, true), (9, true), (10, true), (11, true), (12, true), (13, true), (14, true), (15, true), (16, true), (17, true), (18, true), (19, true), (20, true), (21, true), (22, true), (23, true), (24, true), (25, true)] (by kernel_rfl) ?_
            rw [← hwd]
            clear hwd
            have q1 : decide (fz < 1) = false := decide_eq_false (by omega)
            have q2 : decide ((fv : Int) ≤ fz) = false := decide_eq_false (by omega)
            iterate 4 (refine ord_look rfl hSd rfl (by intro w hS; obtain ⟨s1, s0, s2⟩ := hS; go_simp; with_reducible rfl) (fun c a w h => h) ?_; simp only [Act.put, List.setIfInBounds_toArray, List.set_cons_succ, List.set_cons_zero])
            try simp only [q1]
            iterate 6 (refine ord_look rfl hSd (by kernel_rfl) (by intro w hS; obtain ⟨s1, s0, s2⟩ := hS; go_simp; with_reducible rfl) (fun c a w h => h) ?_; simp only [Act.put, List.setIfInBounds_toArray, List.set_cons_succ, List.set_cons_zero])
            try simp only [q2]
            iterate 6 (refine ord_look rfl hSd (by kernel_rfl) (by intro w hS; obtain ⟨s1, s0, s2⟩ := hS; go_simp; with_reducible rfl) (fun c a w h => h) ?_; simp only [Act.put, List.setIfInBounds_toArray, List.set_cons_succ, List.set_cons_zero])
            clear q1 q2
            iterate 8 (refine ord_skip rfl hSd (by kernel_rfl) (fun c a w h => h) ?_; simp only [Act.put, List.setIfInBounds_toArray, List.set_cons_succ, List.set_cons_zero])
            iterate 2 (refine ord_look rfl hSd (by kernel_rfl) (by intro w hS; obtain ⟨s1, s0, s2⟩ := hS; go_simp; with_reducible rfl) (fun c a w h => h) ?_; simp only [Act.put, List.setIfInBounds_toArray, List.set_cons_succ, List.set_cons_zero])
            refine ord_end ?_
            obtain ⟨u1, u0, y1'⟩ := hSd
            go_wp2_with fail
            go_roundg (nw + 1 - (r + 1))
            case measure => have := HZ3.out; omega
            case rel => exact ⟨r + 1, p + 1, by omega, rfl, by have := HPP.out; omega, ⟨sm, by go_num, hs2.1, hs2.2, HSN⟩, ⟨bb, rfl, HAN2⟩, by go_num, HMP4, HRP4⟩
        · obtain rfl : r = nw := by omega
          have htk : new.take r = new := by rw [HNN.out.1, List.take_length]
          have hpp : p = n2 := by have := HNN.out.2; omega
          have hch := HNW.out.1.charge
          have hfa := HNW.out.1.fast
          simp only at hch hfa
          rw [HTF.out] at hch
          rw [htk] at HSM HAN
          rw [← HSM.out] at hch
          rw [← HAN.out] at hfa
          have hbd : bl ≠ 0 → fa = true := fun h => HNW.out.1.body (fun e => h (by rw [HNW.out.2.1]; have e : body = [] := e; rw [e]; rfl))
          have hfs : Hid (T2.fs = tfewv fs) := Lib.hid (by have h := HNW.out.1.fs; rw [HTF.out] at h; exact h)
          clear htk HSM HAN
          subst hpp hch hfa
          have HMR2 := HMR
          clear HMR HRR
          by_cases hb0 : bl = 0
          · subst hb0
            clear hbd
            cases fa
            · go_wp2_with fail
              go_roundg (na + 1 - (t + 1))
              case measure => have := HZ2.out; omega
              case rel => exact ⟨t + 1, np + 10, g', _, by omega, by omega, rfl, by go_num, by omega, HMR2, hfs⟩
            · go_wp2_with fail
              go_roundg (na + 1 - (t + 1))
              case measure => have := HZ2.out; omega
              case rel => exact ⟨t + 1, np + 10, g', _, by omega, by omega, rfl, by go_num, by omega, HMR2, hfs⟩
          · obtain rfl := hbd hb0
            clear hbd
            go_wp2_with fail
            go_roundg (na + 1 - (t + 1))
            case measure => have := HZ2.out; omega
            case rel => exact ⟨t + 1, np + 10, g', _, by omega, by omega, rfl, by go_num, by omega, HMR2, hfs⟩
    · by_cases hta : t < na
      · have h2 : ¬ t < 100 := fun h => hlt ⟨hta, h⟩
        clear hlt
        go_wp2_with fail
        go_ret
        exact ⟨rfl, HBF.out.trans (HM.out.bel.mono HBF.out.size)⟩
      · clear hlt
        go_wp2_with fail
        go_ret
        exact ⟨rfl, HBF.out.trans (HM.out.bel.mono HBF.out.size)⟩
end Go.Proofs.YtgiegkacilfofaaDoor
