/- law19: TierOwn. -/
import Derived.Test.YtgiegkacilfofabDoorTG4
import Derived.Test.YtgiegkacilfofabDoorTRdN
import Derived.Test.YtgiegkacilfofabDoorTG2
import Derived.Test.YtgiegkacilfofabDoorTWr
namespace Go.Proofs.YtgiegkacilfofabDoor
set_option linter.unusedVariables false
set_option linter.unusedSimpArgs false
open Go.RowKit Go.Conc

/-- one with other picks that go the same -/
def AlikeT (Ta Tb : TS) : Prop := ∃ p, Alike p Tb.picks ∧ Ta = Tb.withP p
theorem AlikeT.enter {Ta Tb : TS} (h : AlikeT Ta Tb) (cap fn : Int) (args : List Int) : (enterV cap Ta fn args).1 = (enterV cap Tb fn args).1 ∧ AlikeT (enterV cap Ta fn args).2 (enterV cap Tb fn args).2 := by
  obtain ⟨p, h1, rfl⟩ := h
  obtain ⟨h2, q, h3, h4⟩ := enter_withP cap Tb p h1 fn args
  exact ⟨h2, q, h3, h4⟩
theorem AlikeT.evs {Ta Tb : TS} (h : AlikeT Ta Tb) : Ta.evs = Tb.evs := by
  obtain ⟨p, _, rfl⟩ := h
  rfl
def oT (picks : List Int) : TS := ⟨[pairM, pairF], [[], [true]], picks, [], fun _ => none, []⟩
theorem oT_alike : AlikeT (oT [2, 0, 0]) (oT [2]) := ⟨[2, 0, 0], fun i => by
  match i with
  | 0 => rfl
  | 1 => rfl
  | 2 => rfl
  | i + 3 => rfl, rfl⟩
theorem oT_ok (picks : List Int) : TOk (oT picks) := ⟨fun f hf => by
  have hf : f = pairM ∨ f = pairF := by
    have hf : f ∈ [pairM, pairF] := hf
    simpa using hf
  rcases hf with rfl | rfl
  · refine ⟨by decide, fun y hy => ?_⟩
    rcases List.mem_cons.1 hy with rfl | hy
    · constructor <;> (unfold In64; simp)
    · rw [List.mem_singleton.1 hy]
      constructor <;> (unfold In64; simp)
  · refine ⟨by decide, fun y hy => ?_⟩
    have hy : y = ⟨2, 0, 0⟩ ∨ y = ⟨1, 0, 3⟩ ∨ y = ⟨8, 0, 0⟩ ∨ y = ⟨18, 0, 0⟩ := by simpa [pairF] using hy
    rcases hy with rfl | rfl | rfl | rfl <;> (constructor <;> (unfold In64; simp)), fun e he => by cases he⟩

set_option maxHeartbeats 8000000 in
set_option maxRecDepth 100000 in
theorem tierOwn_walk (W : World) (A : Option Addr) (c : Nat) (l : List Int) (hL : TxtIs W) (hN : NumsAt W A c l) :
    Calls Tryd.prog 5 #[.slice A l.length c] W fun e w' => e = .returned (.bool true) ∧ Below W.heap.size W w' := by
  obtain ⟨n, hn⟩ : ∃ z, z = l.length := ⟨_, rfl⟩
  rw [← hn]
  have hpc : n ≤ c ∧ c ≤ maxLen := by obtain ⟨_, h1, h2, _⟩ := hN.1.get; rw [hn]; exact ⟨h1, h2⟩
  have hn63 : n ≤ 9223372036854775807 := by have h1 := hpc.1; have h2 := hpc.2; unfold maxLen at h2; omega
  have CS := Lib.hid (tshown_any hL)
  have HNU := Lib.hid (And.intro hN hn)
  have HTX := Lib.hid hL
  clear hpc hn hN hL
  go_enter Tryd.func5, Tryd.ntmps5
  go_wp2_with fail
  refine CS.out.mono ?_
  rintro e wa ⟨rfl, hba⟩
  have HBA : Hid (Below W.heap.size W wa) := Lib.hid hba
  clear hba CS
  go_wp2_with fail
  refine (pair_any wa).mono ?_
  rintro e w1 ⟨b1, b2, b3, rfl, h1, h2, h3, ⟨hl1, _⟩, hb⟩
  obtain ⟨wc, hwc⟩ : ∃ z, z = w1.alloc (.cells #[.slice (some ⟨b3, 0, none⟩) 2 2] 28) := ⟨_, rfl⟩
  obtain ⟨Qc, hQc⟩ : ∃ z, z = w1.heap.size := ⟨_, rfl⟩
  have cc : Chg (fun _ => False) w1 wc := by rw [hwc]; exact (Chg.refl _ _).alloc _
  have hxc : wc.heap[Qc]? = some (.cells #[.slice (some ⟨b3, 0, none⟩) 2 2] 28 (0, 0)) := by rw [hwc]; exact heap_new' hQc.symm
  have HF := Lib.hid ((pair_fns h1 h2 h3).keep cc.to_below)
  have HBC : Hid (Below W.heap.size W wc) := Lib.hid ((HBA.out.trans (hb.mono HBA.out.size)).trans (cc.below (fun _ x => x.elim) (Nat.le_trans HBA.out.size hb.size)))
  obtain ⟨Q, hQ⟩ : ∃ z, z = wc.heap.size := ⟨_, rfl⟩
  have HQC : Hid (Qc + 1 = Q) := Lib.hid (by rw [hQ, hwc, hQc]; simp)
  obtain ⟨w2, hw2⟩ : ∃ z, z = wc.alloc (.cells #[.bool true] 4) := ⟨_, rfl⟩
  obtain ⟨w3, hw3⟩ : ∃ z, z = w2.alloc (.cells #[.slice none 0 0, .slice (some ⟨Q, 0, none⟩) 1 1] 30) := ⟨_, rfl⟩
  obtain ⟨w4, hw4⟩ : ∃ z, z = w3.alloc (.cells #[.int .i64 2, .int .i64 0, .int .i64 0] 2) := ⟨_, rfl⟩
  have hs2 : w2.heap.size = Q + 1 := by rw [hw2, hQ]; simp
  have hs3 : w3.heap.size = Q + 1 + 1 := by rw [hw3]; simp [hs2]
  have hpm : PairMem wc w4 Q [2, 0, 0] := pair_mem hQ hw2 hw3 hw4
  have CN := Lib.hid (pairNew_any HF.out hpm 1 (fun z hz => by have hz : z = 2 ∨ z = 0 := by simpa using hz
                                                               rcases hz with rfl | rfl <;> (unfold In64; omega)) (n := 3) rfl (by omega))
  have HPM := Lib.hid hpm
  have hl1w : W.heap.size ≤ b1 := Nat.le_trans HBA.out.size hl1
  have H3 := Lib.hid (And.intro (cc.heap h1 (fun x => x)) (And.intro (cc.heap h3 (fun x => x)) (And.intro hxc (And.intro hl1w (And.intro hQ (And.intro (lt_of_heap h1) cc.size))))))
  have HW := Lib.hid (And.intro hw2 (And.intro hw3 (And.intro hw4 (And.intro hQ (And.intro hwc (And.intro hQc (And.intro hs2 hs3)))))))
  have HB4 : Hid (Below W.heap.size W w4) := Lib.hid (HBC.out.trans (hpm.chg.to_below.mono HBC.out.size))
  have hx4 := cell_of_block (hpm.chg.heap hxc (fun x => x)) 0
  simp at hx4
  clear hw2 hw3 hw4 hQ hpm HF hs2 hs3 h1 h2 h3 hl1 hl1w hb hwc hQc cc hxc HBA
  go_upto_region 5 with fail
  rw [← HW.out.2.2.2.2.2.1, ← HW.out.2.2.2.2.1]
  rw [HQC.out, ← HW.out.1, ← HW.out.2.1, ← HW.out.2.2.1]
  go_wp2_with fail
  refine CN.out.mono ?_
  rintro e u0 ⟨ma, ga, xa, rfl, htc, hlo, hb5⟩
  have hM : TM W u0 ga ma 1 0 xa (oT [2, 0, 0]) := ⟨htc, tinv_new _ _ _ _, fun k hk => Nat.le_trans HB4.out.size (hlo k hk), HB4.out.trans (hb5.mono HB4.out.size)⟩
  have HMA := Lib.hid hM
  have HLO := Lib.hid hlo
  have HP5 := Lib.hid hb5
  clear htc hlo hb5 hM CN hx4
  go_wp2_with fail
  refine (pair_any u0).mono ?_
  rintro e v1 ⟨d1, d2, d3, rfl, h1, h2, h3, _, hb⟩
  have HF := Lib.hid (pair_fns h1 h2 h3)
  obtain ⟨R, hR⟩ : ∃ z, z = v1.heap.size := ⟨_, rfl⟩
  obtain ⟨v2, hv2⟩ : ∃ z, z = v1.alloc (.cells #[.bool true] 4) := ⟨_, rfl⟩
  obtain ⟨v3, hv3⟩ : ∃ z, z = v2.alloc (.cells #[.slice none 0 0, .slice (some ⟨R, 0, none⟩) 1 1] 30) := ⟨_, rfl⟩
  obtain ⟨v4, hv4⟩ : ∃ z, z = v3.alloc (.cells #[.int .i64 2] 2) := ⟨_, rfl⟩
  have hs2 : v2.heap.size = R + 1 := by rw [hv2, hR]; simp
  have hs3 : v3.heap.size = R + 1 + 1 := by rw [hv3]; simp [hs2]
  have hpm : PairMem v1 v4 R [2] := pair_mem hR hv2 hv3 hv4
  have CN := Lib.hid (pairNew_any HF.out hpm 1 (fun z hz => by rw [List.mem_singleton.1 hz]; unfold In64; omega) (n := 1) rfl (by omega))
  have HV := Lib.hid (And.intro hv2 (And.intro hv3 (And.intro hv4 (And.intro hR (And.intro hs2 hs3)))))
  have HB6 : Hid (Below u0.heap.size u0 v4) := Lib.hid (hb.trans (hpm.chg.to_below.mono hb.size))
  clear hv2 hv3 hv4 hR hpm HF hs2 hs3 h1 h2 h3 hb
  go_wp2_with fail
  rw [← HV.out.2.2.2.1, ← HV.out.1, ← HV.out.2.1, ← HV.out.2.2.1]
  refine CN.out.mono ?_
  rintro e u1 ⟨mb, gb, xb, rfl, htc, hlo, hb5⟩
  have hM2 : TM2 W u1 ga gb ma mb 1 0 xa xb (oT [2, 0, 0]) (oT [2]) := TM2.of_new HMA.out (HB6.out.trans (hb5.mono HB6.out.size)) htc (tinv_new _ _ _ _) (fun k hk => Nat.le_trans HB6.out.size (hlo k hk))
  have HUB : Hid (Below u0.heap.size u0 u1) := Lib.hid (HB6.out.trans (hb5.mono HB6.out.size))
  have HGB : Hid (∀ k, gb k ≠ 0 → u0.heap.size ≤ k) := Lib.hid (fun k hk => Nat.le_trans HB6.out.size (hlo k hk))
  have HM0 := Lib.hid hM2
  clear htc hlo hb5 hM2 CN HMA HV HB6
  -- what is written over
  have c41 : Chg (fun _ => False) w4 u1 := (Below.chg HP5.out).then (Below.chg HUB.out)
  have cc1 : Chg (fun _ => False) wc u1 := HPM.out.chg.then c41
  have k1 := cc1.heap H3.out.1 (fun x => x)
  have k3 := cc1.heap H3.out.2.1 (fun x => x)
  have kc := cc1.heap H3.out.2.2.1 (fun x => x)
  have kQ := c41.heap HPM.out.e1 (fun x => x)
  have kR := c41.heap HPM.out.e2 (fun x => x)
  have kP := c41.heap HPM.out.e3 (fun x => x)
  have hs4 := HPM.out.size
  have hb1w : W.heap.size ≤ b1 ∧ b1 < Q ∧ W.heap.size ≤ Q ∧ Q + 1 + 1 < u0.heap.size ∧ b3 < Q ∧ Qc < Q := by
    have h1 := H3.out.2.2.2.1
    have h2 := H3.out.2.2.2.2.1
    have h4 := HBC.out.size
    have h6 := HP5.out.size
    have h7 := lt_of_heap H3.out.1
    have h8 := lt_of_heap H3.out.2.1
    have h9 := lt_of_heap H3.out.2.2.1
    omega
  have HNUM := Lib.hid hb1w
  have y0 : u1.cell? ⟨b1, 0, none⟩ = some (.int .i64 2) := (cell_of_block k1 0).trans rfl
  have y1 : u1.cell? ⟨b1, 1, none⟩ = some (.int .i64 0) := (cell_of_block k1 1).trans rfl
  have y2 : u1.cell? ⟨b1, 2, none⟩ = some (.int .i64 0) := (cell_of_block k1 2).trans rfl
  have f0 := frozen_of_block k1 0
  have f1 := frozen_of_block k1 1
  have f2 := frozen_of_block k1 2
  have y3 := cell_of_block k3 9
  have yc := cell_of_block kc 0
  simp at y3 yc
  obtain ⟨u2, hu2⟩ : ∃ z, z = ((u1.setCell ⟨b1, 0, none⟩ (.int .i64 25)).setCell ⟨b1, 1, none⟩ (.int .i64 0)).setCell ⟨b1, 2, none⟩ (.int .i64 0) := ⟨_, rfl⟩
  have ce2 : Chg (fun k => k = b1) u1 u2 := by
    rw [hu2]
    exact (((Chg.refl (fun k => k = b1) u1).setCell (p := ⟨b1, 0, none⟩) (fun _ => rfl) _).setCell (p := ⟨b1, 1, none⟩) (fun _ => rfl) _).setCell (p := ⟨b1, 2, none⟩) (fun _ => rfl) _
  have kQ2 := ce2.heap kQ (fun e => by have e : Q = b1 := e; omega)
  have kR2 := ce2.heap kR (fun e => by have e : Q + 1 = b1 := e; omega)
  have kP2 := ce2.heap kP (fun e => by have e : Q + 1 + 1 = b1 := e; omega)
  have HU2 := Lib.hid hu2
  have HCE2 := Lib.hid ce2
  have HK2 := Lib.hid (And.intro kQ2 (And.intro kR2 kP2))
  clear hu2 ce2 kQ kR kP k1 k3 kc hs4 c41 cc1 hb1w kQ2 kR2 kP2
  go_upto_region 10 with fail
  rw [← HU2.out]
  clear y0 y1 y2 f0 f1 f2 y3 yc
  have z1 := cell_of_block HK2.out.2.1 1
  have z2 := cell_of_block HK2.out.1 0
  have fz := frozen_of_block HK2.out.1 0
  simp at z1 z2
  obtain ⟨u3, hu3⟩ : ∃ z, z = u2.setCell ⟨Q, 0, none⟩ (.bool false) := ⟨_, rfl⟩
  have ce3 : Chg (fun k => k = Q) u2 u3 := by rw [hu3]; exact Chg.set_cell ⟨Q, 0, none⟩ _
  have kP3 := ce3.heap HK2.out.2.2 (fun e => by have e : Q + 1 + 1 = Q := e; omega)
  have HU3 := Lib.hid hu3
  have HCE3 := Lib.hid ce3
  have HKP := Lib.hid kP3
  clear hu3 ce3 kP3
  go_upto_region 11 with fail
  rw [← HU3.out]
  clear z1 z2 fz
  have z1 : u3.cell? ⟨Q + 1 + 1, 0, none⟩ = some (.int .i64 2) := (cell_of_block HKP.out 0).trans rfl
  have fz := frozen_of_block HKP.out 0
  obtain ⟨uz, huz⟩ : ∃ z, z = u3.setCell ⟨Q + 1 + 1, 0, none⟩ (.int .i64 3) := ⟨_, rfl⟩
  have ce4 : Chg (fun k => k = Q + 1 + 1) u3 uz := by rw [huz]; exact Chg.set_cell ⟨Q + 1 + 1, 0, none⟩ _
  have hcz : Chg (fun k => k = b1 ∨ k = Q ∨ k = Q + 1 + 1) u1 uz := ((HCE2.out.mono (fun _ _ e => .inl e)).then (HCE3.out.mono (fun _ _ e => .inr (.inl e)))).then (ce4.mono (fun _ _ e => .inr (.inr e)))
  have hbz : Below W.heap.size W uz := HM0.out.a.bel.trans (hcz.below (fun k hk => by have h := HNUM.out; rcases hk with e | e | e <;> omega) HM0.out.a.bel.size)
  have hnn := HNUM.out
  have hm4 := HPM.out.size
  have HMZ : Hid (TM2 W uz ga gb ma mb 1 0 xa xb (oT [2, 0, 0]) (oT [2])) := Lib.hid ⟨HM0.out.a.keptX hcz (fun k hk e => by have h1 := HLO.out k hk; rcases e with e | e | e <;> omega) hbz, HM0.out.b.keptX hcz (fun k hk e => by have h1 := HGB.out k hk; rcases e with e | e | e <;> omega) hbz, HM0.out.ap⟩
  have HUZ := Lib.hid huz
  clear huz ce4 hcz hbz hnn hm4 HM0 HKP HK2 HU2 HU3
  go_upto_region 12 with fail
  rw [← HUZ.out]
  clear z1 fz HUZ HCE2 HCE3 HLO HGB HUB HPM H3 HW HP5 HB4 HBC HNUM
  go_wp2_with fail
  go_loopg [9] (n + 1) (fun z i wr => ∃ (t np : Nat) (ga gb : Nat → Nat) (Ta Tb : TS), t ≤ n ∧ t ≤ 20 ∧ z = n + 1 - t ∧ i = .int .i64 t ∧ np ≤ 20 * t ∧ Hid (TM2 W wr ga gb ma mb 1 np xa xb Ta Tb) ∧ Hid (AlikeT Ta Tb ∧ TOk Tb))
  case atStart => exact ⟨0, 0, ga, gb, _, _, by omega, by omega, rfl, rfl, by omega, HMZ, Lib.hid ⟨oT_alike, oT_ok _⟩⟩
  case round =>
    clear HMZ
    obtain ⟨t, np, ga, gb, Ta, Tb, ht, ht2, hz, rfl, hnp, HM, HT⟩ := hrel
    have HZ := Lib.hid hz
    clear hz
    by_cases hlt : t < n ∧ t < 20
    · have htn := hlt.1
      have ht20 := hlt.2
      clear hlt
      obtain ⟨_, _, _, hget⟩ := HNU.out.1.1.get
      obtain ⟨b, off, rfl, q0⟩ := hget t (by rw [← HNU.out.2]; exact htn)
      have hin := HNU.out.1.2.1 (l[t]'(by rw [← HNU.out.2]; exact htn)) (List.getElem_mem _)
      obtain ⟨xv, hxv⟩ : ∃ z, z = l[t]'(by rw [← HNU.out.2]; exact htn) := ⟨_, rfl⟩
      rw [← hxv] at q0 hin
      have HQ : Hid (∀ w', Below W.heap.size W w' → w'.cell? ⟨b, off + t, none⟩ = some (.int .i64 xv)) := Lib.hid (fun w' hb => (Below.chg hb).cell q0 (fun x => x))
      have q0 := HQ.out _ HM.out.a.bel
      clear hget hxv
      obtain ⟨wv, hwv⟩ : ∃ z, z = wr.alloc (.cells #[.int .i64 xv] 2) := ⟨_, rfl⟩
      obtain ⟨G, hG⟩ : ∃ z, z = wr.heap.size := ⟨_, rfl⟩
      have hcv : Chg (fun _ => False) wr wv := by rw [hwv]; exact (Chg.refl _ _).alloc _
      have hgv : wv.heap[G]? = some (.cells #[.int .i64 xv] 2 (0, 0)) := by rw [hwv]; exact heap_new' hG.symm
      have hnum := num_one hwv
      rw [← hG] at hnum
      have CE := Lib.hid ((HM.out.kept hcv).enter hnum 1 (by omega))
      have HWV := Lib.hid (And.intro hwv (And.intro hG (And.intro hgv hcv)))
      obtain ⟨hr1, hal⟩ := HT.out.1.enter 1 1 [xv]
      obtain ⟨hok, hbo⟩ := HT.out.2.enter (cap := 1) 1 (args := [xv]) (fun z hz => by rw [List.mem_singleton.1 hz]; exact hin)
      obtain ⟨⟨⟨body, fa, chv⟩, Tb2⟩, hEn⟩ : ∃ z, z = enterV 1 Tb 1 [xv] := ⟨_, rfl⟩
      obtain ⟨Ta2, hTa2⟩ : ∃ z, z = (enterV 1 Ta 1 [xv]).2 := ⟨_, rfl⟩
      rw [← hEn] at hr1 hal hok hbo
      rw [← hTa2] at hal
      simp only at hr1 hal hok hbo
      rw [hr1, ← hTa2] at CE
      simp only at CE
      obtain ⟨bl, hbl⟩ : ∃ z, z = body.length := ⟨_, rfl⟩
      rw [← hbl] at CE
      have HEN := Lib.hid (And.intro hEn (And.intro hbl (And.intro hal (And.intro hok hbo))))
      clear hwv hG hgv hcv hnum hr1 hal hok hbo hEn hTa2 hbl hin
      go_upto_region 16 with fail
      rw [← HWV.out.2.1, ← HWV.out.1]
      clear q0
      go_wp2_with fail
      refine CE.out.mono ?_
      rintro e y1 ⟨VB, ga2, rfl, h1, h2, h3, h4⟩
      obtain ⟨_, A5, c5, rfl⟩ := ownsRow_slice h1
      have hGl : ga G = 0 ∧ gb G = 0 := by
        have e1 := HWV.out.2.1
        constructor
        · rcases Nat.eq_zero_or_pos (ga G) with e | e
          · exact e
          · have := HM.out.a.tc.lt G (by omega); omega
        · rcases Nat.eq_zero_or_pos (gb G) with e | e
          · exact e
          · have := HM.out.b.tc.lt G (by omega); omega
      have hg1 := h4.heap HWV.out.2.2.1 (fun e => e hGl.1)
      have q0 := HQ.out _ h3.a.bel
      obtain ⟨y2, hy2⟩ : ∃ z, z = y1.alloc (.cells #[.int .i64 xv] 2) := ⟨_, rfl⟩
      obtain ⟨G2, hG2⟩ : ∃ z, z = y1.heap.size := ⟨_, rfl⟩
      have hc2 : Chg (fun _ => False) y1 y2 := by rw [hy2]; exact (Chg.refl _ _).alloc _
      have hnum := num_one hy2
      rw [← hG2] at hnum
      have CB := Lib.hid ((h3.kept hc2).swap.enterX hnum 1 (by omega))
      rw [← HEN.out.1] at CB
      simp only at CB
      rw [← HEN.out.2.1] at CB
      have HY2 := Lib.hid (And.intro hy2 hG2)
      have HR1 := Lib.hid (And.intro (ownsRow_kept h1 hc2 (fun _ _ x => x)) (And.intro (hc2.heap hg1 (fun x => x)) (And.intro hGl.2 (And.intro h2 hc2.size))))
      have HYB : Hid (wv.heap.size ≤ y1.heap.size) := Lib.hid h4.size
      clear h1 h2 h3 h4 hGl hg1 hy2 hG2 hc2 hnum CE
      go_wp2_with fail
      rw [← HY2.out.2, ← HY2.out.1]
      refine CB.out.mono ?_
      rintro e y3 ⟨VB2, gb2, rfl, h1, h2, h3, h4, h5⟩
      obtain ⟨_, A6, c6, rfl⟩ := ownsRow_slice h1
      have hr5 := ownsRow_kept HR1.out.1 h4 (fun k hk hk2 => hk2 (HR1.out.2.2.2.1 k hk).2.2)
      have hg3 := h4.heap HR1.out.2.1 (fun e => e HR1.out.2.2.1)
      have HMY : Hid (TM2 W y3 ga2 gb2 ma mb 1 (np + 20) xa xb Ta2 Tb2) := Lib.hid h3.swap
      have HZA : Hid (∀ k, (Value.slice A5 bl c5).ownBlock = some k → ga2 k = 0 ∧ gb2 k = 0 ∧ W.heap.size ≤ k) := Lib.hid (fun k hk => by
        obtain ⟨a1, a2, a3⟩ := HR1.out.2.2.2.1 k hk
        have hk1 := ownsRow_lt HR1.out.1 k hk
        have hwz := HM.out.a.bel.size
        have hwv := HWV.out.2.2.2.size
        exact ⟨a2, h5 k hk1 a3, by omega⟩)
      obtain ⟨wd, hwd⟩ : ∃ z, z = y3.drew := ⟨_, rfl⟩
      have hcd : Chg (fun _ => False) y3 wd := by rw [hwd]; exact (Chg.refl _ _).drew
      have HMD := Lib.hid (HMY.out.kept hcd)
      have hSd : wd.cell? ⟨G, 0, none⟩ = some (.int .i64 xv) ∧ wd.cell? ⟨b, off + t, none⟩ = some (.int .i64 xv) := ⟨hcd.cell ((cell_of_block hg3 0).trans rfl) (fun x => x), HQ.out _ HMD.out.a.bel⟩
      have HRA := Lib.hid (ownsRow_kept hr5 hcd (fun _ _ x => x))
      have CT := Lib.hid (ttexts_any (n := bl) (l := body) (HTX.out.keep HMD.out.a.bel) HEN.out.2.1 (Src.of_row HRA.out) (Src.of_row (ownsRow_kept h1 hcd (fun _ _ x => x))) HEN.out.2.2.2.2)
      clear h1 h2 h3 h4 h5 hr5 hg3 CB q0 hcd
      go_upto_region 18 with fail
      refine wp_region_ord (S := fun w' => w'.cell? ⟨G, 0, none⟩ = some (.int .i64 xv) ∧ w'.cell? ⟨b, off + t, none⟩ = some (.int .i64 xv)) (N := fun i => true) (by kernel_rfl) [(0, true), (1, true), (2, false), (3, true), (4, true), (5, true), (6, true), (7, true), (8, true), (9, true), (10, true), (11, true), (12, true), (13, true), (14, true), (15, true), (16, true), (17, true), (18, true), (19, true), (20, true), (21, true), (22, true), (23, true)] (by kernel_rfl) ?_
      rw [← hwd]
      clear hwd
      iterate 2 (refine ord_look rfl hSd (by kernel_rfl) (by intro w hS; go_simp; with_reducible rfl) (fun c a w h => h) ?_; simp only [Act.put, List.setIfInBounds_toArray, List.set_cons_succ, List.set_cons_zero])
      refine ord_act rfl rfl (fun K hK => ?_)
      refine wp_call 11 _ _ Tryd.func11 rfl (by kernel_rfl) _ _ rfl #[.slice A5 bl c5, .slice A6 bl c6] (by simp [Act.eval]) (R := fun v w' => v = .bool true ∧ Below wd.heap.size wd w') (calls_ret CT.out (by rintro e w1 ⟨rfl, h⟩; exact ⟨_, rfl, rfl, h⟩)) ?_
      rintro v wz ⟨rfl, hbz⟩
      have hSz : wz.cell? ⟨G, 0, none⟩ = some (.int .i64 xv) ∧ wz.cell? ⟨b, off + t, none⟩ = some (.int .i64 xv) := ⟨(Below.chg hbz).cell hSd.1 (fun x => x), (Below.chg hbz).cell hSd.2 (fun x => x)⟩
      refine hK _ _ ⟨fun _ => hSz, ?_⟩
      clear hK K hSd CT
      try simp only [Act.put, List.setIfInBounds_toArray, List.set_cons_succ, List.set_cons_zero]
      iterate 21 (refine ord_look rfl hSz (by kernel_rfl) (by intro w hS; obtain ⟨s1, s2⟩ := hS; go_simp; with_reducible rfl) (fun c a w h => h) ?_; simp only [Act.put, List.setIfInBounds_toArray, List.set_cons_succ, List.set_cons_zero])
      refine ord_end ?_
      have HMZ := Lib.hid (HMD.out.kept (Below.chg hbz))
      have HRZ := Lib.hid (RB.of_row (ownsRow_kept HRA.out (Below.chg hbz) (fun _ _ x => x)))
      have hbl63 : bl ≤ 1048576 := by have := HEN.out.2.1; have := HEN.out.2.2.2.2.1; omega
      clear hSz hbz HMD HRA HMY
      go_wp2_with fail
      go_loopg [17] (bl + 1) (fun z i wr => ∃ k : Nat, k ≤ bl ∧ z = bl + 1 - k ∧ i = .int .i64 k ∧ Hid (RB wz wr A5 44 3 bl))
      case atStart => exact ⟨0, by omega, rfl, rfl, HRZ⟩
      case round =>
        clear HRZ
        obtain ⟨k, hk, hz, rfl, HR⟩ := hrel
        have HZ2 := Lib.hid hz
        clear hz
        by_cases hkl : k < bl
        · obtain ⟨b5, cs, hA5, hb5, hn5⟩ := HR.out.box (by omega)
          have hch := HR.out.chg
          rw [hA5] at hch
          have hnx := RB.set3 hch hb5 hn5 k (.int .i64 77) (.int .i64 0) (.int .i64 0)
          have hk0 : k * 3 < cs.size := by omega
          have hk1 : k * 3 + 1 < cs.size := by omega
          have hk2 : k * 3 + 2 < cs.size := by omega
          have q0 : wr.cell? ⟨b5, k * 3, none⟩ = some cs[k * 3] := by rw [cell_of_block hb5]; exact Array.getElem?_eq_getElem hk0
          have q1 : wr.cell? ⟨b5, k * 3 + 1, none⟩ = some cs[k * 3 + 1] := by rw [cell_of_block hb5]; exact Array.getElem?_eq_getElem hk1
          have q2 : wr.cell? ⟨b5, k * 3 + 2, none⟩ = some cs[k * 3 + 2] := by rw [cell_of_block hb5]; exact Array.getElem?_eq_getElem hk2
          have f0 := frozen_of_block hb5 (k * 3)
          have f1 := frozen_of_block hb5 (k * 3 + 1)
          have f2 := frozen_of_block hb5 (k * 3 + 2)
          generalize cs[k * 3] = c0 at q0
          generalize cs[k * 3 + 1] = c1 at q1
          generalize cs[k * 3 + 2] = c2 at q2
          have HNX := Lib.hid hnx
          clear hch hnx hb5 hn5 hk0 hk1 hk2 HR
          subst hA5
          go_wp2_with fail
          go_roundg (bl + 1 - (k + 1))
          case measure => have := HZ2.out; omega
          case rel => exact ⟨k + 1, by omega, rfl, by go_num, HNX⟩
        · obtain rfl : k = bl := by omega
          have HM2 : Hid (TM2 W wr ga2 gb2 ma mb 1 (np + 20) xa xb Ta2 Tb2) := Lib.hid (HMZ.out.written HR.out.chg (fun j hj => by
            have hj : A5 = some ⟨j, 0, none⟩ := hj
            exact HZA.out j (by rw [hj]; rfl)))
          have CV := Lib.hid (HM2.out.a.events (by omega))
          obtain ⟨ne, hne⟩ : ∃ z, z = Ta2.evs.length := ⟨_, rfl⟩
          rw [← hne] at CV
          have hne2 : ne ≤ 1048576 := by have := HM2.out.a.tc.small.2.2; omega
          clear HR HMZ hne
          go_wp2_with fail
          refine CV.out.mono ?_
          rintro e ww ⟨VE, rfl, hrow, hfar, _, hcv⟩
          obtain ⟨_, A7, c7, rfl⟩ := ownsRow_slice hrow
          have HMW := Lib.hid (HM2.out.kept hcv)
          have HRW := Lib.hid (RB.of_row hrow)
          have HZE : Hid (∀ j, AtB A7 j → ga2 j = 0 ∧ gb2 j = 0 ∧ W.heap.size ≤ j) := Lib.hid (fun j hj => by
            have hj : A7 = some ⟨j, 0, none⟩ := hj
            have h1 := hfar j (by rw [hj]; rfl)
            have h2 := HM2.out.a.bel.size
            refine ⟨?_, ?_, by omega⟩
            · rcases Nat.eq_zero_or_pos (ga2 j) with e | e
              · exact e
              · have := HM2.out.a.tc.lt j (by omega); omega
            · rcases Nat.eq_zero_or_pos (gb2 j) with e | e
              · exact e
              · have := HM2.out.b.tc.lt j (by omega); omega)
          clear hrow hfar hcv CV HM2
          go_wp2_with fail
          go_loopg [19] (ne + 1) (fun z i wr => ∃ k : Nat, k ≤ ne ∧ z = ne + 1 - k ∧ i = .int .i64 k ∧ Hid (RB ww wr A7 41 2 ne))
          case atStart => exact ⟨0, by omega, rfl, rfl, HRW⟩
          case round =>
            clear HRW
            obtain ⟨j, hj, hz, rfl, HR⟩ := hrel
            have HZ3 := Lib.hid hz
            clear hz
            by_cases hjl : j < ne
            · obtain ⟨b7, cs, hA7, hb7, hn7⟩ := HR.out.box (by omega)
              have hch := HR.out.chg
              rw [hA7] at hch
              have hnx := RB.set2 hch hb7 hn7 j (.int .i64 0) (.int .i64 0)
              have hk0 : j * 2 < cs.size := by omega
              have hk1 : j * 2 + 1 < cs.size := by omega
              have q0 : wr.cell? ⟨b7, j * 2, none⟩ = some cs[j * 2] := by rw [cell_of_block hb7]; exact Array.getElem?_eq_getElem hk0
              have q1 : wr.cell? ⟨b7, j * 2 + 1, none⟩ = some cs[j * 2 + 1] := by rw [cell_of_block hb7]; exact Array.getElem?_eq_getElem hk1
              have f0 := frozen_of_block hb7 (j * 2)
              have f1 := frozen_of_block hb7 (j * 2 + 1)
              generalize cs[j * 2] = c0 at q0
              generalize cs[j * 2 + 1] = c1 at q1
              have HNX := Lib.hid hnx
              clear hch hnx hb7 hn7 hk0 hk1 HR
              subst hA7
              go_wp2_with fail
              go_roundg (ne + 1 - (j + 1))
              case measure => have := HZ3.out; omega
              case rel => exact ⟨j + 1, by omega, rfl, by go_num, HNX⟩
            · obtain rfl : j = ne := by omega
              have HMX : Hid (TM2 W wr ga2 gb2 ma mb 1 (np + 20) xa xb Ta2 Tb2) := Lib.hid (HMW.out.written HR.out.chg HZE.out)
              clear HR HMW
              go_wp2_with fail
              go_roundg (n + 1 - (t + 1))
              case measure => have := HZ.out; omega
              case rel => exact ⟨t + 1, np + 20, ga2, gb2, _, _, by omega, by omega, rfl, by go_num, by omega, HMX, Lib.hid ⟨HEN.out.2.2.1, HEN.out.2.2.2.1⟩⟩
    · have hcs : (¬ (t : Int) < (n : Int)) ∨ ((t : Int) < (n : Int) ∧ ¬ (t : Int) < 20) := by
        by_cases h : t < n
        · exact .inr ⟨by omega, fun h2 => hlt ⟨h, by omega⟩⟩
        · exact .inl (by omega)
      have CV := Lib.hid (HM.out.a.events (by omega))
      have hev := HM.out.a.tc.small.2.2
      have hee := HT.out.1.evs
      obtain ⟨evs, hevs⟩ : ∃ z, z = Tb.evs := ⟨_, rfl⟩
      rw [hee, ← hevs] at CV hev
      obtain ⟨n1, hn1⟩ : ∃ z, z = evs.length := ⟨_, rfl⟩
      rw [← hn1] at hev CV
      have HN1 := Lib.hid (And.intro hn1 hevs)
      clear hn1 hee hevs hlt
      rcases hcs with hcs | ⟨hcs, hcs2⟩
      all_goals (go_upto_region 29 with fail)
      all_goals
        go_wp2_with fail
        refine CV.out.mono ?_
        rintro e wv ⟨VE, rfl, hrow, hfar, _, hcv⟩
        obtain ⟨_, A7, c7, rfl⟩ := ownsRow_slice hrow
        have HM2 := Lib.hid (HM.out.kept hcv)
        have CV2 := Lib.hid (HM2.out.b.events (by omega))
        rw [← HN1.out.2, ← HN1.out.1] at CV2
        have HR7 := Lib.hid hrow
        clear hrow hfar hcv CV
        go_wp2_with fail
        refine CV2.out.mono ?_
        rintro e wy ⟨VE, rfl, hrow, hfar, _, hcv⟩
        obtain ⟨_, A8, c8, rfl⟩ := ownsRow_slice hrow
        have HM3 := Lib.hid (HM2.out.kept hcv)
        have CE := Lib.hid (tevents_any HN1.out.1 (by omega) (ownsRow_kept HR7.out hcv (fun _ _ x => x)) hrow)
        clear hrow hfar hcv CV2
        go_wp2_with fail
        refine CE.out.mono ?_
        rintro e wz ⟨rfl, hbz⟩
        have HBZ := Lib.hid (HM3.out.a.bel.trans (hbz.mono HM3.out.a.bel.size))
        clear hbz CE
        go_wp2_with fail
        go_ret
        exact ⟨rfl, HBZ.out⟩
end Go.Proofs.YtgiegkacilfofabDoor
