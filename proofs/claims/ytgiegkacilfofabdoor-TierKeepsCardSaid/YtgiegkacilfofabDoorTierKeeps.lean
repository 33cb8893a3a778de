/- law19: TierKeeps. -/
import Derived.Test.YtgiegkacilfofabDoorTG4
import Derived.Test.YtgiegkacilfofabDoorTRdN
namespace Go.Proofs.YtgiegkacilfofabDoor
set_option linter.unusedVariables false
set_option linter.unusedSimpArgs false
open Go.RowKit Go.Conc

/-- behind so many calls -/
def KS (b : Bool) (x0 : Int) (T : TS) (t : Nat) : Prop := (t = 0 ∧ T = kT0 b) ∨ (0 < t ∧ KInv b x0 T t)
theorem KS.evs {b : Bool} {x0 : Int} {T : TS} {t : Nat} (h : KS b x0 T t) : T.evs.length = if t = 0 then 0 else t + 1 := by
  rcases h with ⟨rfl, rfl⟩ | ⟨h, hk⟩
  · rfl
  · rw [if_neg (by omega)]; exact hk.evs
/-- one more call -/
theorem KS.step {b : Bool} {x0 : Int} {T : TS} {t : Nat} (h : KS b x0 T t) {xv : Int} (h0 : t = 0 → xv = x0) :
    ∃ (body : List InsR) (bo : Bool) (ch : Int), (enterV 1 T 1 [xv]).1 = (body, bo, ch) ∧ KS b x0 (enterV 1 T 1 [xv]).2 (t + 1) ∧ bo = (!b || decide (xv = x0)) ∧ (0 < body.length ↔ bo = true) ∧ ch = (if t = 0 then 8 else if bo = true then 0 else 50) := by
  rcases h with ⟨rfl, rfl⟩ | ⟨ht, hk⟩
  · obtain ⟨body, k1, k2, k3⟩ := keep_first b x0
    obtain rfl := h0 rfl
    exact ⟨body, true, 8, k2, .inr ⟨by omega, k3⟩, by simp, ⟨fun _ => rfl, fun _ => k1⟩, rfl⟩
  · obtain ⟨body, k1, k2, k3⟩ := keep_step hk xv
    exact ⟨body, _, _, k1, .inr ⟨by omega, k3⟩, rfl, k2, (if_neg (show ¬ t = 0 by omega)).symm⟩

set_option maxHeartbeats 8000000 in
set_option maxRecDepth 100000 in
theorem tierKeeps_false (W : World) (A : Option Addr) (c : Nat) (l : List Int) (hL : TxtIs W) (hN : NumsAt W A c l) :
    Calls Tryd.prog 3 #[.bool false, .slice A l.length c] W fun e w' => e = .returned (.bool true) ∧ Below W.heap.size W w' := by
  obtain ⟨n, hn⟩ : ∃ z, z = l.length := ⟨_, rfl⟩
  rw [← hn]
  have hpc : n ≤ c ∧ c ≤ maxLen := by obtain ⟨_, h1, h2, _⟩ := hN.1.get; rw [hn]; exact ⟨h1, h2⟩
  have hn63 : n ≤ 9223372036854775807 := by have h1 := hpc.1; have h2 := hpc.2; unfold maxLen at h2; omega
  have hc63 : c ≤ 9223372036854775807 := by have h2 := hpc.2; unfold maxLen at h2; omega
  have hnc := hpc.1
  obtain ⟨x0, hx0⟩ : ∃ z, z = l.getD 0 0 := ⟨_, rfl⟩
  have CS := Lib.hid (tshown_any hL)
  have HNU := Lib.hid (And.intro hN (And.intro hn hx0))
  obtain ⟨lm, hlm⟩ : ∃ lm : Nat, (if (50 : Int) < (n : Int) then (50 : Int) else (n : Int)) = (lm : Int) := ⟨(if (50 : Int) < (n : Int) then (50 : Int) else (n : Int)).toNat, by split <;> omega⟩
  have hlml : lm ≤ n ∧ lm ≤ 50 := by split at hlm <;> omega
  have hlm3 : min (n : Int) 50 = (lm : Int) := by split at hlm <;> omega
  have hlmn := hlml.1
  clear hpc hn hx0 hN hL
  go_enter Tryd.func3, Tryd.ntmps3
  go_wp2_with fail
  refine CS.out.mono ?_
  rintro e wa ⟨rfl, hba⟩
  have HBA : Hid (Below W.heap.size W wa) := Lib.hid hba
  clear hba CS
  go_wp2_with fail
  refine (pair_any wa).mono ?_
  rintro e w1 ⟨b1, b2, b3, rfl, h1, h2, h3, _, hb⟩
  have HF := Lib.hid (pair_fns h1 h2 h3)
  have HB1 : Hid (Below W.heap.size W w1) := Lib.hid (HBA.out.trans (hb.mono HBA.out.size))
  clear h1 h2 h3 hb
  obtain ⟨Q, hQ⟩ : ∃ z, z = w1.heap.size := ⟨_, rfl⟩
  obtain ⟨w2, hw2⟩ : ∃ z, z = w1.alloc (.cells #[.bool true] 4) := ⟨_, rfl⟩
  obtain ⟨w3, hw3⟩ : ∃ z, z = w2.alloc (.cells #[.slice none 0 0, .slice (some ⟨Q, 0, none⟩) 1 1] 30) := ⟨_, rfl⟩
  obtain ⟨w4, hw4⟩ : ∃ z, z = w3.alloc (.cells #[.int .i64 1] 2) := ⟨_, rfl⟩
  have hs2 : w2.heap.size = Q + 1 := by rw [hw2, hQ]; simp
  have hs3 : w3.heap.size = Q + 1 + 1 := by rw [hw3]; simp [hs2]
  have hpm : PairMem w1 w4 Q [1] := pair_mem hQ hw2 hw3 hw4
  have CN := Lib.hid (pairNew_any HF.out hpm 1 (fun z hz => by rw [List.mem_singleton.1 hz]; unfold In64; omega) (n := 1) rfl (by omega))
  have HW := Lib.hid (And.intro hw2 (And.intro hw3 (And.intro hw4 hQ)))
  have HS := Lib.hid (And.intro hs2 hs3)
  have HB4 : Hid (Below W.heap.size W w4) := Lib.hid (HB1.out.trans (hpm.chg.to_below.mono HB1.out.size))
  clear hw2 hw3 hw4 hQ hpm HF hs2 hs3
  go_wp2_with fail
  rw [← HW.out.2.2.2, ← HW.out.1, ← HW.out.2.1, ← HW.out.2.2.1]
  refine CN.out.mono ?_
  rintro e u0 ⟨m, g0, x, rfl, htc, hlo, hb5⟩
  have hM : TM W u0 g0 m 1 0 x (kT0 false) := ⟨htc, tinv_new _ _ _ _, fun k hk => Nat.le_trans HB4.out.size (hlo k hk), HB4.out.trans (hb5.mono HB4.out.size)⟩
  have HM0 := Lib.hid hM
  clear htc hlo hb5 hM CN HW HS
  go_wp2_with fail
  go_loopg [8] (lm + 1) (fun z i wr => ∃ (t np : Nat) (g : Nat → Nat) (T : TS), t ≤ lm ∧ z = lm + 1 - t ∧ i = .int .i64 t ∧ np ≤ 10 * t ∧ Hid (TM W wr g m 1 np x T) ∧ Hid (KS false x0 T t))
  case atStart => exact ⟨0, 0, g0, _, by omega, rfl, rfl, by omega, HM0, Lib.hid (.inl ⟨rfl, rfl⟩)⟩
  case round =>
    clear HM0
    obtain ⟨t, np, g, T, ht, hz, rfl, hnp, HM, HK⟩ := hrel
    have HZ := Lib.hid hz
    clear hz
    by_cases hlt : t < lm
    · have htn : t < n := by omega
      have hin := HNU.out.1.2.1 (l[t]'(by rw [← HNU.out.2.1]; exact htn)) (List.getElem_mem _)
      obtain ⟨_, _, _, hget⟩ := HNU.out.1.1.get
      obtain ⟨b, off, rfl, q0⟩ := hget t (by rw [← HNU.out.2.1]; exact htn)
      obtain ⟨b', off', e, p0⟩ := hget 0 (by rw [← HNU.out.2.1]; omega)
      injection e with e
      injection e with e1 e2
      subst e1 e2
      have hx0 : l[0]'(by rw [← HNU.out.2.1]; omega) = x0 := by
        have e := HNU.out.2.2
        rw [List.getD_eq_getElem?_getD, List.getElem?_eq_getElem (by rw [← HNU.out.2.1]; omega)] at e
        exact e.symm
      rw [hx0] at p0
      obtain ⟨xv, hxv⟩ : ∃ z, z = l[t]'(by rw [← HNU.out.2.1]; exact htn) := ⟨_, rfl⟩
      rw [← hxv] at q0 hin
      have HXV : Hid (t = 0 → xv = x0) := Lib.hid (fun h => by subst h; rw [hxv, hx0])
      simp only [Nat.add_zero] at p0
      have HQ : Hid (∀ w', Below W.heap.size W w' → w'.cell? ⟨b, off + t, none⟩ = some (.int .i64 xv) ∧ w'.cell? ⟨b, off, none⟩ = some (.int .i64 x0)) := Lib.hid (fun w' hb => ⟨(Below.chg hb).cell q0 (fun x => x), (Below.chg hb).cell p0 (fun x => x)⟩)
      clear hget hx0 hxv q0 p0
      obtain ⟨wv, hwv⟩ : ∃ z, z = wr.alloc (.cells #[.int .i64 xv] 2) := ⟨_, rfl⟩
      obtain ⟨body, bo, ch, hr, hK2, hbo, hbl0, hch⟩ := HK.out.step HXV.out
      have HK2 := Lib.hid hK2
      obtain ⟨bl, hbl⟩ : ∃ z, body.length = z := ⟨_, rfl⟩
      rw [hbl] at hbl0
      have CE := Lib.hid (HM.out.enter1 hwv 1 hr hbl (by omega))
      have HWV := Lib.hid (And.intro hwv hbl)
      clear hwv hr hbl hin hK2
      obtain rfl : bo = true := by rw [hbo]; rfl
      have hb0 : 0 < bl := hbl0.2 rfl
      by_cases ht0 : t = 0
      · subst ht0
        obtain rfl := HXV.out rfl
        obtain rfl : ch = 8 := by rw [hch]; rfl
        clear hbo hbl0 hch
        obtain ⟨q0, p0⟩ := HQ.out _ HM.out.bel
        go_wp2_with fail
        rw [← HWV.out.1]
        refine CE.out.mono ?_
        rintro e wy ⟨A5, c5, g', rfl, _, _, hM, _, hC⟩
        have HM2 := Lib.hid hM
        obtain ⟨q0, p0⟩ := HQ.out _ hM.bel
        clear hM hC CE
        go_upto_region 13 with fail
        obtain ⟨wd, hwd⟩ : ∃ z, z = wy.drew := ⟨_, rfl⟩
        have HMD := Lib.hid (HM2.out.kept (w' := wd) (by rw [hwd]; exact (Chg.refl _ _).drew))
        refine wp_region_ord (S := fun _ => True) (N := fun _ => true) (by kernel_rfl) [(0, true), (1, true), (2, true), (3, true), (4, true), (5, true), (6, true), (7, true), (8, true), (9, true), (10, true), (11, true), (12, true)] (by kernel_rfl) ?_
        rw [← hwd]
        clear hwd
        iterate 3 (refine ord_look rfl trivial (by kernel_rfl) (by intro w hS; go_simp; with_reducible rfl) (fun c a w h => h) ?_; simp only [Act.put, List.setIfInBounds_toArray, List.set_cons_succ, List.set_cons_zero])
        iterate 8 (refine ord_skip rfl trivial (by kernel_rfl) (fun c a w h => h) ?_; simp only [Act.put, List.setIfInBounds_toArray, List.set_cons_succ, List.set_cons_zero])
        iterate 2 (refine ord_look rfl trivial (by kernel_rfl) (by intro w hS; go_simp; with_reducible rfl) (fun c a w h => h) ?_; simp only [Act.put, List.setIfInBounds_toArray, List.set_cons_succ, List.set_cons_zero])
        refine ord_end ?_
        go_wp2_with fail
        go_roundg (lm + 1 - (0 + 1))
        case measure => have := HZ.out; omega
        case rel => exact ⟨0 + 1, np + 10, g', _, by omega, rfl, by go_num, by omega, HMD, HK2⟩
      · obtain rfl : ch = 0 := by rw [hch, if_neg ht0]; rfl
        clear hbo hbl0 hch
        obtain ⟨q0, p0⟩ := HQ.out _ HM.out.bel
        go_wp2_with fail
        rw [← HWV.out.1]
        refine CE.out.mono ?_
        rintro e wy ⟨A5, c5, g', rfl, _, _, hM, _, hC⟩
        have HM2 := Lib.hid hM
        obtain ⟨q0, p0⟩ := HQ.out _ hM.bel
        clear hM hC CE
        go_upto_region 13 with fail
        obtain ⟨wd, hwd⟩ : ∃ z, z = wy.drew := ⟨_, rfl⟩
        have HMD := Lib.hid (HM2.out.kept (w' := wd) (by rw [hwd]; exact (Chg.refl _ _).drew))
        refine wp_region_ord (S := fun _ => True) (N := fun _ => true) (by kernel_rfl) [(0, true), (1, true), (2, true), (3, true), (4, true), (5, true), (6, true), (7, true), (8, true), (9, true), (10, true), (11, true), (12, true)] (by kernel_rfl) ?_
        rw [← hwd]
        clear hwd
        iterate 3 (refine ord_look rfl trivial (by kernel_rfl) (by intro w hS; go_simp; with_reducible rfl) (fun c a w h => h) ?_; simp only [Act.put, List.setIfInBounds_toArray, List.set_cons_succ, List.set_cons_zero])
        iterate 8 (refine ord_skip rfl trivial (by kernel_rfl) (fun c a w h => h) ?_; simp only [Act.put, List.setIfInBounds_toArray, List.set_cons_succ, List.set_cons_zero])
        iterate 2 (refine ord_look rfl trivial (by kernel_rfl) (by intro w hS; go_simp; with_reducible rfl) (fun c a w h => h) ?_; simp only [Act.put, List.setIfInBounds_toArray, List.set_cons_succ, List.set_cons_zero])
        refine ord_end ?_
        go_wp2_with fail
        go_roundg (lm + 1 - (t + 1))
        case measure => have := HZ.out; omega
        case rel => exact ⟨t + 1, np + 10, g', _, by omega, rfl, by go_num, by omega, HMD, HK2⟩
    · obtain rfl : t = lm := by omega
      have CV := Lib.hid (HM.out.events (by omega))
      have hev := HK.out.evs
      obtain ⟨ne, hne⟩ : ∃ z, z = T.evs.length := ⟨_, rfl⟩
      rw [← hne] at hev
      have HNE := Lib.hid hne
      clear hne
      by_cases h0 : t = 0
      · subst h0
        rw [if_pos rfl] at hev
        subst hev
        have hm2 : min (0 : Int) 1 = 0 := by decide
        clear hlt
        go_wp2_with fail
        refine CV.out.mono ?_
        rintro e wz ⟨VE, rfl, hrow, _, hM, _⟩
        rw [← HNE.out] at hrow
        obtain ⟨_, A7, c7, rfl⟩ := ownsRow_slice hrow
        have HBZ := Lib.hid hM.bel
        clear hrow hM CV
        go_wp2_with fail
        go_ret
        exact ⟨rfl, HBZ.out⟩
      · rw [if_neg h0] at hev
        subst hev
        have hm1 : (if (1 : Int) < (t : Int) then (1 : Int) else (t : Int)) = 1 := by split <;> omega
        have hm2 : min (t : Int) 1 = 1 := by omega
        clear hlt
        go_wp2_with fail
        refine CV.out.mono ?_
        rintro e wz ⟨VE, rfl, hrow, _, hM, _⟩
        rw [← HNE.out] at hrow
        obtain ⟨_, A7, c7, rfl⟩ := ownsRow_slice hrow
        have HBZ := Lib.hid hM.bel
        clear hrow hM CV
        go_wp2_with fail
        go_ret
        exact ⟨rfl, HBZ.out⟩

set_option maxHeartbeats 8000000 in
set_option maxRecDepth 100000 in
theorem tierKeeps_true (W : World) (A : Option Addr) (c : Nat) (l : List Int) (hL : TxtIs W) (hN : NumsAt W A c l) :
    Calls Tryd.prog 3 #[.bool true, .slice A l.length c] W fun e w' => e = .returned (.bool true) ∧ Below W.heap.size W w' := by
  obtain ⟨n, hn⟩ : ∃ z, z = l.length := ⟨_, rfl⟩
  rw [← hn]
  have hpc : n ≤ c ∧ c ≤ maxLen := by obtain ⟨_, h1, h2, _⟩ := hN.1.get; rw [hn]; exact ⟨h1, h2⟩
  have hn63 : n ≤ 9223372036854775807 := by have h1 := hpc.1; have h2 := hpc.2; unfold maxLen at h2; omega
  have hc63 : c ≤ 9223372036854775807 := by have h2 := hpc.2; unfold maxLen at h2; omega
  have hnc := hpc.1
  obtain ⟨x0, hx0⟩ : ∃ z, z = l.getD 0 0 := ⟨_, rfl⟩
  have CS := Lib.hid (tshown_any hL)
  have HNU := Lib.hid (And.intro hN (And.intro hn hx0))
  obtain ⟨lm, hlm⟩ : ∃ lm : Nat, (if (50 : Int) < (n : Int) then (50 : Int) else (n : Int)) = (lm : Int) := ⟨(if (50 : Int) < (n : Int) then (50 : Int) else (n : Int)).toNat, by split <;> omega⟩
  have hlml : lm ≤ n ∧ lm ≤ 50 := by split at hlm <;> omega
  have hlm3 : min (n : Int) 50 = (lm : Int) := by split at hlm <;> omega
  have hlmn := hlml.1
  clear hpc hn hx0 hN hL
  go_enter Tryd.func3, Tryd.ntmps3
  go_wp2_with fail
  refine CS.out.mono ?_
  rintro e wa ⟨rfl, hba⟩
  have HBA : Hid (Below W.heap.size W wa) := Lib.hid hba
  clear hba CS
  go_wp2_with fail
  refine (pair_any wa).mono ?_
  rintro e w1 ⟨b1, b2, b3, rfl, h1, h2, h3, _, hb⟩
  have HF := Lib.hid (pair_fns h1 h2 h3)
  have HB1 : Hid (Below W.heap.size W w1) := Lib.hid (HBA.out.trans (hb.mono HBA.out.size))
  clear h1 h2 h3 hb
  obtain ⟨Q, hQ⟩ : ∃ z, z = w1.heap.size := ⟨_, rfl⟩
  obtain ⟨w2, hw2⟩ : ∃ z, z = w1.alloc (.cells #[.bool true] 4) := ⟨_, rfl⟩
  obtain ⟨w3, hw3⟩ : ∃ z, z = w2.alloc (.cells #[.slice none 0 0, .slice (some ⟨Q, 0, none⟩) 1 1] 30) := ⟨_, rfl⟩
  obtain ⟨w4, hw4⟩ : ∃ z, z = w3.alloc (.cells #[.int .i64 2] 2) := ⟨_, rfl⟩
  have hs2 : w2.heap.size = Q + 1 := by rw [hw2, hQ]; simp
  have hs3 : w3.heap.size = Q + 1 + 1 := by rw [hw3]; simp [hs2]
  have hpm : PairMem w1 w4 Q [2] := pair_mem hQ hw2 hw3 hw4
  have CN := Lib.hid (pairNew_any HF.out hpm 1 (fun z hz => by rw [List.mem_singleton.1 hz]; unfold In64; omega) (n := 1) rfl (by omega))
  have HW := Lib.hid (And.intro hw2 (And.intro hw3 (And.intro hw4 hQ)))
  have HS := Lib.hid (And.intro hs2 hs3)
  have HB4 : Hid (Below W.heap.size W w4) := Lib.hid (HB1.out.trans (hpm.chg.to_below.mono HB1.out.size))
  clear hw2 hw3 hw4 hQ hpm HF hs2 hs3
  go_wp2_with fail
  rw [← HW.out.2.2.2, ← HW.out.1, ← HW.out.2.1, ← HW.out.2.2.1]
  refine CN.out.mono ?_
  rintro e u0 ⟨m, g0, x, rfl, htc, hlo, hb5⟩
  have hM : TM W u0 g0 m 1 0 x (kT0 true) := ⟨htc, tinv_new _ _ _ _, fun k hk => Nat.le_trans HB4.out.size (hlo k hk), HB4.out.trans (hb5.mono HB4.out.size)⟩
  have HM0 := Lib.hid hM
  clear htc hlo hb5 hM CN HW HS
  go_wp2_with fail
  go_loopg [8] (lm + 1) (fun z i wr => ∃ (t np : Nat) (g : Nat → Nat) (T : TS), t ≤ lm ∧ z = lm + 1 - t ∧ i = .int .i64 t ∧ np ≤ 10 * t ∧ Hid (TM W wr g m 1 np x T) ∧ Hid (KS true x0 T t))
  case atStart => exact ⟨0, 0, g0, _, by omega, rfl, rfl, by omega, HM0, Lib.hid (.inl ⟨rfl, rfl⟩)⟩
  case round =>
    clear HM0
    obtain ⟨t, np, g, T, ht, hz, rfl, hnp, HM, HK⟩ := hrel
    have HZ := Lib.hid hz
    clear hz
    by_cases hlt : t < lm
    · have htn : t < n := by omega
      have hin := HNU.out.1.2.1 (l[t]'(by rw [← HNU.out.2.1]; exact htn)) (List.getElem_mem _)
      obtain ⟨_, _, _, hget⟩ := HNU.out.1.1.get
      obtain ⟨b, off, rfl, q0⟩ := hget t (by rw [← HNU.out.2.1]; exact htn)
      obtain ⟨b', off', e, p0⟩ := hget 0 (by rw [← HNU.out.2.1]; omega)
      injection e with e
      injection e with e1 e2
      subst e1 e2
      have hx0 : l[0]'(by rw [← HNU.out.2.1]; omega) = x0 := by
        have e := HNU.out.2.2
        rw [List.getD_eq_getElem?_getD, List.getElem?_eq_getElem (by rw [← HNU.out.2.1]; omega)] at e
        exact e.symm
      rw [hx0] at p0
      obtain ⟨xv, hxv⟩ : ∃ z, z = l[t]'(by rw [← HNU.out.2.1]; exact htn) := ⟨_, rfl⟩
      rw [← hxv] at q0 hin
      have HXV : Hid (t = 0 → xv = x0) := Lib.hid (fun h => by subst h; rw [hxv, hx0])
      simp only [Nat.add_zero] at p0
      have HQ : Hid (∀ w', Below W.heap.size W w' → w'.cell? ⟨b, off + t, none⟩ = some (.int .i64 xv) ∧ w'.cell? ⟨b, off, none⟩ = some (.int .i64 x0)) := Lib.hid (fun w' hb => ⟨(Below.chg hb).cell q0 (fun x => x), (Below.chg hb).cell p0 (fun x => x)⟩)
      clear hget hx0 hxv q0 p0
      obtain ⟨wv, hwv⟩ : ∃ z, z = wr.alloc (.cells #[.int .i64 xv] 2) := ⟨_, rfl⟩
      obtain ⟨body, bo, ch, hr, hK2, hbo, hbl0, hch⟩ := HK.out.step HXV.out
      have HK2 := Lib.hid hK2
      obtain ⟨bl, hbl⟩ : ∃ z, body.length = z := ⟨_, rfl⟩
      rw [hbl] at hbl0
      have CE := Lib.hid (HM.out.enter1 hwv 1 hr hbl (by omega))
      have HWV := Lib.hid (And.intro hwv hbl)
      clear hwv hr hbl hin hK2
      by_cases hxx : xv = x0
      · subst hxx
        obtain rfl : bo = true := by rw [hbo]; simp
        have hb0 : 0 < bl := hbl0.2 rfl
        by_cases ht0 : t = 0
        · subst ht0
          obtain rfl : ch = 8 := by rw [hch]; rfl
          clear hbo hbl0 hch
          obtain ⟨q0, p0⟩ := HQ.out _ HM.out.bel
          go_wp2_with fail
          rw [← HWV.out.1]
          refine CE.out.mono ?_
          rintro e wy ⟨A5, c5, g', rfl, _, _, hM, _, hC⟩
          have HM2 := Lib.hid hM
          obtain ⟨q0, p0⟩ := HQ.out _ hM.bel
          clear hM hC CE
          go_upto_region 13 with fail
          go_quiet (fail)
          go_wp2_with fail
          go_roundg (lm + 1 - (0 + 1))
          case measure => have := HZ.out; omega
          case rel => exact ⟨0 + 1, np + 10, g', _, by omega, rfl, by go_num, by omega, Lib.hid (HM2.out.kept ((Chg.refl _ _).drewN _)), HK2⟩
        · obtain rfl : ch = 0 := by rw [hch, if_neg ht0]; rfl
          clear hbo hbl0 hch
          obtain ⟨q0, p0⟩ := HQ.out _ HM.out.bel
          go_wp2_with fail
          rw [← HWV.out.1]
          refine CE.out.mono ?_
          rintro e wy ⟨A5, c5, g', rfl, _, _, hM, _, hC⟩
          have HM2 := Lib.hid hM
          obtain ⟨q0, p0⟩ := HQ.out _ hM.bel
          clear hM hC CE
          go_upto_region 13 with fail
          go_quiet (fail)
          go_wp2_with fail
          go_roundg (lm + 1 - (t + 1))
          case measure => have := HZ.out; omega
          case rel => exact ⟨t + 1, np + 10, g', _, by omega, rfl, by go_num, by omega, Lib.hid (HM2.out.kept ((Chg.refl _ _).drewN _)), HK2⟩
      · obtain rfl : bo = false := by rw [hbo]; simp [hxx]
        have ht0 : ¬ t = 0 := fun h => hxx (HXV.out h)
        obtain rfl : bl = 0 := by rcases Nat.eq_zero_or_pos bl with e | e; (exact e); exact absurd (hbl0.1 e) (by decide)
        obtain rfl : ch = 50 := by rw [hch, if_neg ht0]; rfl
        have t1 : (xv == x0) = false := by rw [beq_eq_false_iff_ne]; exact hxx
        have t3 : decide (xv = x0) = false := decide_eq_false hxx
        clear hbo hbl0 hch hxx
        obtain ⟨q0, p0⟩ := HQ.out _ HM.out.bel
        go_wp2_with fail
        rw [← HWV.out.1]
        refine CE.out.mono ?_
        rintro e wy ⟨A5, c5, g', rfl, _, _, hM, _, hC⟩
        have HM2 := Lib.hid hM
        obtain ⟨q0, p0⟩ := HQ.out _ hM.bel
        clear hM hC CE
        go_upto_region 13 with fail
        go_quiet (fail)
        go_wp2_with fail
        go_roundg (lm + 1 - (t + 1))
        case measure => have := HZ.out; omega
        case rel => exact ⟨t + 1, np + 10, g', _, by omega, rfl, by go_num, by omega, Lib.hid (HM2.out.kept ((Chg.refl _ _).drewN _)), HK2⟩
    · obtain rfl : t = lm := by omega
      have CV := Lib.hid (HM.out.events (by omega))
      have hev := HK.out.evs
      obtain ⟨ne, hne⟩ : ∃ z, z = T.evs.length := ⟨_, rfl⟩
      rw [← hne] at hev
      have HNE := Lib.hid hne
      clear hne
      by_cases h0 : t = 0
      · subst h0
        rw [if_pos rfl] at hev
        subst hev
        have hm2 : min (0 : Int) 1 = 0 := by decide
        clear hlt
        go_wp2_with fail
        refine CV.out.mono ?_
        rintro e wz ⟨VE, rfl, hrow, _, hM, _⟩
        rw [← HNE.out] at hrow
        obtain ⟨_, A7, c7, rfl⟩ := ownsRow_slice hrow
        have HBZ := Lib.hid hM.bel
        clear hrow hM CV
        go_wp2_with fail
        go_ret
        exact ⟨rfl, HBZ.out⟩
      · rw [if_neg h0] at hev
        subst hev
        have hm1 : (if (1 : Int) < (t : Int) then (1 : Int) else (t : Int)) = 1 := by split <;> omega
        have hm2 : min (t : Int) 1 = 1 := by omega
        clear hlt
        go_wp2_with fail
        refine CV.out.mono ?_
        rintro e wz ⟨VE, rfl, hrow, _, hM, _⟩
        rw [← HNE.out] at hrow
        obtain ⟨_, A7, c7, rfl⟩ := ownsRow_slice hrow
        have HBZ := Lib.hid hM.bel
        clear hrow hM CV
        go_wp2_with fail
        go_ret
        exact ⟨rfl, HBZ.out⟩

theorem tierKeeps_walk (W : World) (sp : Bool) (A : Option Addr) (c : Nat) (l : List Int) (hL : TxtIs W) (hN : NumsAt W A c l) :
    Calls Tryd.prog 3 #[.bool sp, .slice A l.length c] W fun e w' => e = .returned (.bool true) ∧ Below W.heap.size W w' := by
  cases sp
  · exact tierKeeps_false W A c l hL hN
  · exact tierKeeps_true W A c l hL hN
end Go.Proofs.YtgiegkacilfofabDoor
