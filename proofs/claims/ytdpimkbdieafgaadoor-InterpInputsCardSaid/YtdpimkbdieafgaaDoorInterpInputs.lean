/- InterpInputs: the walk. -/
import Derived.Test.YtdpimkbdieafgaaDoorIntIn
import Derived.Test.YtdpimkbdieafgaaDoorInterpBounds
namespace Go.Proofs.YtdpimkbdieafgaaDoor
set_option linter.unusedVariables false
set_option linter.unusedSimpArgs false
open Go.RowKit

theorem numSrc_row {W : World} {a : Option Addr} {len cap : Nat} {zs : List Int} (h : IntRow .i64 W a len zs) (hc : len ≤ cap ∧ cap ≤ maxLen) : NumSrc W (.slice a len cap) zs := by
  obtain ⟨hl, _, hx⟩ := h
  refine ⟨a, cap, by rw [hl], by rw [hl]; exact hc.1, hc.2, fun h0 => ?_⟩
  obtain ⟨b, off, e, h4⟩ := hx (by omega)
  refine ⟨b, off, e, fun j x hj => ?_⟩
  have hjl := (List.getElem?_eq_some_iff.1 hj).1
  have h5 := h4 j (by omega)
  rw [List.getD_eq_getElem?_getD, hj] at h5
  exact h5
structure InRow (W wr : World) (V : Value) (n : Nat) (l : List InsR) : Prop where
  row : wr.ownsRow 0 44 3 V n (insCells l)
  far : ∀ k, V.ownBlock = some k → W.heap.size ≤ k
  bel : Below W.heap.size W wr

set_option maxHeartbeats 8000000 in
set_option maxRecDepth 100000 in
theorem interpInputs_walk (W : World) (n0 : Int) (a : Option Addr) (len cap : Nat) (zs : List Int) (hL : SortsIs W) (wn : (Lit.int .i64 n0).wf = true) (hcap : len ≤ cap ∧ cap ≤ maxLen) (hr : IntRow .i64 W a len zs) (hl : len * 8 ≤ 140737488351232) :
    Calls Tryd.prog 6 #[.int .i64 n0, .slice a len cap] W fun e w' => e = .returned (.bool true) ∧ Below W.heap.size W w' := by
  obtain ⟨m, hm⟩ : ∃ m, bits .and .i64 n0 65535 = m := ⟨_, rfl⟩
  have hm0 : 0 ≤ m ∧ m ≤ 65535 := by rw [← hm, and_mask16]; omega
  obtain ⟨hm0, hm1⟩ := hm0
  obtain ⟨N, hN⟩ : ∃ N : Nat, m % 51 = (N : Int) := ⟨(m % 51).toNat, by omega⟩
  have hN2 : N ≤ 50 := by omega
  have CS := Lib.hid (shown_any hL)
  have HL := Lib.hid hL
  have HR := Lib.hid (And.intro hr hcap)
  clear hL hr hcap wn hl
  obtain ⟨i0, hi, hz0, hz1, hz2⟩ := info_parts infoIns
  go_enter Tryd.func6, Tryd.ntmps6
  go_wp2_with fail
  refine CS.out.mono ?_; rintro e w1 ⟨rfl, hb1⟩
  have H0 : Hid (InRow W w1 (.slice none 0 0) (3 * 0) (repL 0)) := Lib.hid ⟨World.ownsRow_nil _ _ _ _, (fun k h => by cases h), hb1⟩
  clear CS hb1
  go_wp2_with fail
  rw [hN]
  have HMN := Lib.hid hN
  clear hN hm hm0 hm1
  go_loopg [6, 7] N (fun gk v i wr => ∃ (j nn : Nat) (V : Value), j ≤ N ∧ gk = N - j ∧ v = V ∧ i = .int .i64 j ∧ Hid (nn = 3 * j) ∧ Hid (InRow W wr V nn (repL j)))
  case atStart => exact ⟨0, 0, _, by omega, rfl, rfl, rfl, Lib.hid rfl, H0⟩
  case round =>
    obtain ⟨j, nn, V, hj, hk, rfl, rfl, HNN, HI⟩ := hrel
    have HK := Lib.hid hk
    clear hk
    by_cases hlt : j < N
    · obtain ⟨_, A, c, rfl⟩ := ownsRow_slice HI.out.row
      obtain ⟨wx, hwx⟩ : ∃ z, z = wr.alloc (.cells #[.int .i64 21, .int .i64 0, .int .i64 0, .int .i64 2, .int .i64 0, .int .i64 0, .int .i64 19, .int .i64 0, .int .i64 0] 44) := ⟨_, rfl⟩
      have hcx : Chg (fun _ => False) wr wx := by rw [hwx]; exact (Chg.refl _ _).alloc _
      have hrow := ownsRow_kept HI.out.row hcx (fun _ _ x => x)
      have HROW := Lib.hid hrow
      have HNEW : Hid (∀ (i : Nat) u, ([.int .i64 21, .int .i64 0, .int .i64 0, .int .i64 2, .int .i64 0, .int .i64 0, .int .i64 19, .int .i64 0, .int .i64 0] : List Value)[i]? = some u → wx.cell? ((⟨wr.heap.size, 0, none⟩ : Addr).add i) = some u) := Lib.hid (World.news_of_block (cs := #[.int .i64 21, .int .i64 0, .int .i64 0, .int .i64 2, .int .i64 0, .int .i64 0, .int .i64 19, .int .i64 0, .int .i64 0]) (t := 44) (fr := (0, 0)) (by rw [hwx]; exact heap_new _ _))
      have HSZ : Hid (wx.heap.size = wr.heap.size + 1) := Lib.hid (by rw [hwx]; simp)
      have HCX := Lib.hid hcx
      have HWX := Lib.hid hwx
      have hn150 : nn ≤ 150 := by have := HNN.out; omega
      clear hcx hrow hwx
      go_wp2_with (at_builtin; rw [← HWX.out]; refine wpList_append_lies _ rfl _ _ _ rfl 0 44 i0 _ 3 24 Tryd.underlying42 hi hz0 hz1 hz2 rfl (by omega) (.slice A nn c) nn (insCells (repL j)) rfl HROW.out ⟨wr.heap.size, 0, none⟩ 3 3 [.int .i64 21, .int .i64 0, .int .i64 0, .int .i64 2, .int .i64 0, .int .i64 0, .int .i64 19, .int .i64 0, .int .i64 0] rfl rfl HNEW.out (by simp [Value.oneCell']) (by omega) (by unfold maxLen; omega) (by omega) (by omega) (wr.heap.size + 1) HSZ.out ?_; intro g5 cap5 w5 hown5 hgrow5 hat5 hlt5; have HC5 := Lib.hid (And.intro hown5 (And.intro (Chg.of_grown hgrow5) (And.intro hat5 hlt5))); clear hown5 hgrow5 hat5 hlt5)
      have HN2 : Hid (InRow W w5 (.slice (some ⟨g5, 0, none⟩) (nn + 3) cap5) (nn + 3) (repL (j + 1))) := Lib.hid (by
        have hw := HI.out.bel.size
        refine ⟨?_, fun k hk => ?_, ?_⟩
        · rw [repL, insCells_append]
          exact HC5.out.1
        · have hk : some g5 = some k := hk
          injection hk with hk
          subst hk
          rcases HC5.out.2.2.1 with e | e
          · exact HI.out.far _ e
          · omega
        · have h1 : Below W.heap.size wr wx := HCX.out.below (fun k h => h.elim) hw
          exact (HI.out.bel.trans h1).trans (HC5.out.2.1.below (fun k h => HI.out.far k h) (Nat.le_trans hw h1.size)))
      go_roundg (N - (j + 1))
      case measure => have := HK.out; omega
      case rel => exact ⟨j + 1, nn + 3, _, by omega, rfl, rfl, by go_num, Lib.hid (by have := HNN.out; omega), HN2⟩
    · obtain rfl : j = N := by omega
      obtain ⟨_, A, c, rfl⟩ := ownsRow_slice HI.out.row
      obtain ⟨wx, hwx⟩ : ∃ z, z = wr.alloc (.cells #[.int .i64 1, .int .i64 0, .int .i64 0, .int .i64 18, .int .i64 0, .int .i64 0] 44) := ⟨_, rfl⟩
      have hcx : Chg (fun _ => False) wr wx := by rw [hwx]; exact (Chg.refl _ _).alloc _
      have HROW := Lib.hid (ownsRow_kept HI.out.row hcx (fun _ _ x => x))
      have HNEW : Hid (∀ (i : Nat) u, ([.int .i64 1, .int .i64 0, .int .i64 0, .int .i64 18, .int .i64 0, .int .i64 0] : List Value)[i]? = some u → wx.cell? ((⟨wr.heap.size, 0, none⟩ : Addr).add i) = some u) := Lib.hid (World.news_of_block (cs := #[.int .i64 1, .int .i64 0, .int .i64 0, .int .i64 18, .int .i64 0, .int .i64 0]) (t := 44) (fr := (0, 0)) (by rw [hwx]; exact heap_new _ _))
      have HSZ : Hid (wx.heap.size = wr.heap.size + 1) := Lib.hid (by rw [hwx]; simp)
      have HCX := Lib.hid hcx
      have HWX := Lib.hid hwx
      have hn150 : nn ≤ 150 := by have := HNN.out; omega
      clear hcx hwx
      go_upto_region 8 with fail
      go_wp2_with (at_builtin; rw [← HWX.out]; refine wpList_append_lies _ rfl _ _ _ rfl 0 44 i0 _ 3 24 Tryd.underlying42 hi hz0 hz1 hz2 rfl (by omega) (.slice A nn c) nn (insCells (repL j)) rfl HROW.out ⟨wr.heap.size, 0, none⟩ 2 2 [.int .i64 1, .int .i64 0, .int .i64 0, .int .i64 18, .int .i64 0, .int .i64 0] rfl rfl HNEW.out (by simp [Value.oneCell']) (by omega) (by unfold maxLen; omega) (by omega) (by omega) (wr.heap.size + 1) HSZ.out ?_; intro g5 cap5 w5 hown5 hgrow5 hat5 hlt5; have HC5 := Lib.hid (And.intro hown5 (And.intro (Chg.of_grown hgrow5) (And.intro hat5 hlt5))); clear hown5 hgrow5 hat5 hlt5)
      have hj50 : j ≤ 50 := hN2
      have bW5 : Below W.heap.size W w5 := by
        have hw := HI.out.bel.size
        have h1 : Below W.heap.size wr wx := HCX.out.below (fun k h => h.elim) hw
        exact (HI.out.bel.trans h1).trans (HC5.out.2.1.below (fun k h => HI.out.far k h) (Nat.le_trans hw h1.size))
      have hlen : (inL j).length = nn + 2 := by rw [inL_len, HNN.out]
      have hsrc5 : Src w5 (.slice (some ⟨g5, 0, none⟩) (nn + 2) cap5) (nn + 2) (insCells (inL j)) := by
        unfold inL
        rw [insCells_append]
        exact Src.of_row HC5.out.1
      obtain ⟨wP, hwP⟩ : ∃ z, z = w5.alloc (.cells #[.string ⟨#[]⟩, .int .i64 0, .int .i64 1, .int .i64 0, .slice (some ⟨g5, 0, none⟩) (nn + 2) cap5] 46) := ⟨_, rfl⟩
      obtain ⟨P, hP⟩ : ∃ z, z = w5.heap.size := ⟨_, rfl⟩
      obtain ⟨wQ, hwQ⟩ : ∃ z, z = wP.alloc (.cells #[.slice (some ⟨P, 0, none⟩) 1 1] 24) := ⟨_, rfl⟩
      have cP : Chg (fun _ => False) w5 wP := by rw [hwP]; exact (Chg.refl _ _).alloc _
      have cQ : Chg (fun _ => False) wP wQ := by rw [hwQ]; exact (Chg.refl _ _).alloc _
      have xP : wQ.heap[P]? = some (.cells #[.string ⟨#[]⟩, .int .i64 0, .int .i64 1, .int .i64 0, .slice (some ⟨g5, 0, none⟩) (nn + 2) cap5] 46 (0, 0)) := cQ.heap (by rw [hwP]; exact heap_new' hP.symm) (fun x => x)
      have b5Q : Below w5.heap.size w5 wQ := (cP.then cQ).below (fun k h => h.elim) (Nat.le_refl _)
      have bWQ : Below W.heap.size W wQ := bel_trans bW5 b5Q
      have hfs : FnsIs wQ (.slice (some ⟨P, 0, none⟩) 1 1) [inF j] := by
        refine .inr ⟨P, 0, 1, rfl, lt_of_heap xP, Nat.le_refl _, by simp [maxLen], fun i f hf => ?_⟩
        have hi0 : i = 0 := by have := (List.getElem?_eq_some_iff.1 hf).1; simp at this; exact this
        subst hi0
        injection hf with hf
        subst hf
        have z0 := cell_of_block xP 0
        have z1 := cell_of_block xP 1
        have z2 := cell_of_block xP 2
        have z3 := cell_of_block xP 3
        have z4 := cell_of_block xP 4
        refine ⟨some ⟨g5, 0, none⟩, cap5, ⟨z0, z1, z2, z3, ?_⟩, ?_⟩
        · show wQ.cell? _ = some (.slice _ (inL j).length _)
          rw [hlen]; exact z4
        · show Src wQ (.slice _ (inL j).length _) (inL j).length (insCells (inL j))
          rw [hlen]; exact hsrc5.keepB b5Q
      have hpub : NumSrc wQ (.slice a len cap) zs := (numSrc_row HR.out.1 HR.out.2).keep bWQ
      have hlf : ∀ f ∈ [inF j], f.l.length ≤ 1048576 := fun f hf => by
        obtain rfl : f = inF j := by simpa using hf
        show (inL j).length ≤ _
        rw [hlen]
        omega
      have CR := Lib.hid (run_any (w := wQ) (A := some ⟨P, 0, none⟩) (c := 1) (fs := [inF j]) (fuel := 10000) (quota := 0) (HL.out.keep bWQ) hfs (by simp) hlf hpub (numsrc_nil wQ) (by decide))
      rw [show ([inF j] : List FnR).length = 1 from rfl] at CR
      rw [← hP, ← hwP, ← hwQ]
      have HBQ := Lib.hid bWQ
      clear hlf bW5 hlen hsrc5 hwP hP hwQ cP cQ xP b5Q bWQ hfs hpub
      refine CR.out.mono ?_; rintro e w6 ⟨v, o, rfl, ho, hro, hb6, _⟩
      obtain rfl := runO_inputs hj50 hro
      obtain ⟨AP, cP, AK, cK, AC, cC, rfl, np, _, _⟩ := outIs_shape ho
      simp only [List.length_map, List.length_range, List.length_nil] at np ⊢
      obtain ⟨w7, hw7⟩ : ∃ z, z = w6.alloc (.cells #[.slice AP j cP, .slice AK 0 cK, .slice AC 0 cC, .int .i64 (10 * (j : Int) + 3), .int .i64 0, .int .i64 0] 32) := ⟨_, rfl⟩
      obtain ⟨BA, hBA⟩ : ∃ z, z = w6.heap.size := ⟨_, rfl⟩
      have xA : w7.heap[BA]? = some (.cells #[.slice AP j cP, .slice AK 0 cK, .slice AC 0 cC, .int .i64 (10 * (j : Int) + 3), .int .i64 0, .int .i64 0] 32 (0, 0)) := by rw [hw7]; exact heap_new' hBA.symm
      have b67 : Below w6.heap.size w6 w7 := by rw [hw7]; exact (Below.refl _ _).alloc (Nat.le_refl _) _
      have bW7 := bel_trans HBQ.out (bel_trans hb6 b67)
      have np7 := (np.keep b67).get.2.2.2
      have q0 := cell_of_block xA 0
      have q3 := cell_of_block xA 3
      have q5 := cell_of_block xA 5
      simp at q0 q3 q5
      have HNP := Lib.hid np7
      have HPB := Lib.hid ((numSrc_row HR.out.1 HR.out.2).keep bW7).get
      have HB7 := Lib.hid bW7
      have HW7 := Lib.hid (And.intro hw7 hBA)
      clear CR ho hro hb6 np hw7 hBA xA b67 bW7 np7
      go_upto_region 11 with fail
      rw [← HW7.out.1, ← HW7.out.2]
      have hlz : len ≤ 9223372036854775807 := by have := HPB.out.2.1; have := HPB.out.2.2.1; unfold maxLen at this; omega
      go_wp2_with fail
      clear q3 q5
      go_loopg [10, 11] j (fun gk i wv wr2 => ∃ t : Nat, t ≤ j ∧ gk = j - t ∧ i = .int .i64 t ∧ wr2 = w7)
      case atStart => exact ⟨0, by omega, rfl, rfl, rfl⟩
      case round =>
        obtain ⟨t, ht, hk2, rfl, rfl⟩ := hrel
        have HK2 := Lib.hid hk2
        clear hk2
        by_cases hlt2 : t < j
        · obtain ⟨b, off, e, ct⟩ := HNP.out t (by rw [List.length_map, List.length_range]; exact hlt2)
          subst e
          rw [List.getElem_map, List.getElem_range] at ct
          obtain ⟨x, hx⟩ : ∃ x, x = zs.getD t 0 := ⟨_, rfl⟩
          rw [← hx] at ct
          by_cases hz : t < len
          · have hzl : t < zs.length := by rw [HR.out.1.length]; exact hz
            obtain ⟨b2, off2, e2, cz⟩ := HPB.out.2.2.2 t hzl
            have hxz : zs[t] = x := by rw [hx, List.getD_eq_getElem?_getD, List.getElem?_eq_getElem hzl]; rfl
            rw [hxz] at cz
            subst e2
            clear hx hxz hzl
            go_wp2_with fail
            go_roundg (j - (t + 1))
            case measure => have := HK2.out; omega
            case rel => exact ⟨t + 1, by omega, rfl, by go_num, rfl⟩
          · have hx0 : x = 0 := by rw [hx, List.getD_eq_getElem?_getD, List.getElem?_eq_none (by rw [HR.out.1.length]; omega)]; rfl
            clear hx
            subst hx0
            go_wp2_with fail
            go_roundg (j - (t + 1))
            case measure => have := HK2.out; omega
            case rel => exact ⟨t + 1, by omega, rfl, by go_num, rfl⟩
        · go_wp2_with fail
          go_ret
          exact ⟨rfl, HB7.out⟩
end Go.Proofs.YtdpimkbdieafgaaDoor
