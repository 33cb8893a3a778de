/- FoldJumps walked. -/
import Derived.Test.YtnecgfofefinaaaDoorFoldJumps
namespace Go.Proofs.YtnecgfofefinaaaDoor
set_option linter.unusedVariables false
set_option linter.unusedSimpArgs false
open Go.RowKit

theorem tmod_nat (x : Int) (m : Nat) (h : 0 ≤ x) (hm : 0 < m) : ∃ k : Nat, x.tmod (m : Int) = (k : Int) ∧ k < m := by
  refine ⟨(x.tmod m).toNat, ?_, ?_⟩
  · rw [Int.toNat_of_nonneg (Int.tmod_nonneg _ h)]
  · have h1 : x.tmod m < m := Int.tmod_lt_of_pos _ (by omega)
    have h2 : 0 ≤ x.tmod m := Int.tmod_nonneg _ h
    omega
set_option maxHeartbeats 4000000 in
set_option maxRecDepth 100000 in
theorem foldJumps_walk (W : World) (a : Int) (A : Option Addr) (n c : Nat) (zs : List Int) (b t : Int) (hL : SortsIs W) (wa : (Lit.int .i64 a).wf = true) (hc : n ≤ c ∧ c ≤ maxLen) (hr : IntRow .i64 W A n zs) (hn8 : n * 8 ≤ 140737488351232) (wb : (Lit.int .i64 b).wf = true) (wt : (Lit.int .i64 t).wf = true) :
    Calls Tryd.prog 7 #[.int .i64 a, .slice A n c, .int .i64 b, .int .i64 t] W fun e w' => e = .returned (.bool true) ∧ Below W.heap.size W w' := by
  have hc1 := hc.1
  have hc2 := hc.2
  unfold maxLen at hc2
  have CS := Lib.hid (shown_any hL)
  have HR := Lib.hid hr
  clear hr hL hc
  obtain ⟨i0, hi, hz0, hz1, hz2⟩ := info_parts infoIns
  obtain ⟨m, hm⟩ : ∃ m : Nat, m = if n < 20 then n else 20 := ⟨_, rfl⟩
  have hmi : min (n : Int) 20 = (m : Int) := by rw [hm]; split <;> omega
  have hmn : m ≤ n := by rw [hm]; split <;> omega
  have hm20 : m ≤ 20 := by rw [hm]; split <;> omega
  clear hm
  obtain ⟨h, hh, hh20⟩ := tmod_nat (bits .and .i64 a 65535) 21 (by rw [and_mask16]; omega) (by omega)
  obtain ⟨q, hq, hq20⟩ := tmod_nat (bits .and .i64 b 65535) 20 (by rw [and_mask16]; omega) (by omega)
  obtain ⟨t0, ht, htq⟩ := tmod_nat (bits .and .i64 t 65535) (1 + q) (by rw [and_mask16]; omega) (by omega)
  have hh : (bits .and .i64 a 65535).tmod 21 = (h : Int) := hh
  have hq : (bits .and .i64 b 65535).tmod 20 = (q : Int) := hq
  have ht : (bits .and .i64 t 65535).tmod (1 + (q : Int)) = (t0 : Int) := by
    have e : ((1 + q : Nat) : Int) = 1 + (q : Int) := by omega
    rw [e] at ht; exact ht
  have HCE : Hid (0 < m → ∃ b off, A = some ⟨b, off, none⟩ ∧ ∀ w', Below W.heap.size W w' → ∀ j, j < n → w'.cell? ⟨b, off + j, none⟩ = some (.int .i64 (zs.getD j 0))) := Lib.hid (fun hm0 => by
    obtain ⟨b, off, hA, hcell⟩ := HR.out.at_ (by omega)
    exact ⟨b, off, hA, fun w' hb j hj => (Below.chg hb).cell (hcell j hj) (fun x => x)⟩)
  have HCE : Hid (0 < m → ∃ b off, A = some ⟨b, off, none⟩ ∧ ∀ w', Below W.heap.size W w' → ∀ j, j < n → w'.cell? ⟨b, off + j, none⟩ = some (.int .i64 (zs.getD j 0))) := Lib.hid (fun hm0 => by
    obtain ⟨b, off, hA, hcell⟩ := HR.out.at_ (by omega)
    exact ⟨b, off, hA, fun w' hb j hj => (Below.chg hb).cell (hcell j hj) (fun x => x)⟩)
  have HCE : Hid (0 < m → ∃ b off, A = some ⟨b, off, none⟩ ∧ ∀ w', Below W.heap.size W w' → ∀ j, j < n → w'.cell? ⟨b, off + j, none⟩ = some (.int .i64 (zs.getD j 0))) := Lib.hid (fun hm0 => by
    obtain ⟨b, off, hA, hcell⟩ := HR.out.at_ (by omega)
    exact ⟨b, off, hA, fun w' hb j hj => (Below.chg hb).cell (hcell j hj) (fun x => x)⟩)
  have HCE : Hid (0 < m → ∃ b off, A = some ⟨b, off, none⟩ ∧ ∀ w', Below W.heap.size W w' → ∀ j, j < n → w'.cell? ⟨b, off + j, none⟩ = some (.int .i64 (zs.getD j 0))) := Lib.hid (fun hm0 => by
    obtain ⟨b, off, hA, hcell⟩ := HR.out.at_ (by omega)
    exact ⟨b, off, hA, fun w' hb j hj => (Below.chg hb).cell (hcell j hj) (fun x => x)⟩)
  have HCE : Hid (0 < m → ∃ b off, A = some ⟨b, off, none⟩ ∧ ∀ w', Below W.heap.size W w' → ∀ j, j < n → w'.cell? ⟨b, off + j, none⟩ = some (.int .i64 (zs.getD j 0))) := Lib.hid (fun hm0 => by
    obtain ⟨b, off, hA, hcell⟩ := HR.out.at_ (by omega)
    exact ⟨b, off, hA, fun w' hb j hj => (Below.chg hb).cell (hcell j hj) (fun x => x)⟩)
  have HCE : Hid (0 < m → ∃ b off, A = some ⟨b, off, none⟩ ∧ ∀ w', Below W.heap.size W w' → ∀ j, j < n → w'.cell? ⟨b, off + j, none⟩ = some (.int .i64 (zs.getD j 0))) := Lib.hid (fun hm0 => by
    obtain ⟨b, off, hA, hcell⟩ := HR.out.at_ (by omega)
    exact ⟨b, off, hA, fun w' hb j hj => (Below.chg hb).cell (hcell j hj) (fun x => x)⟩)
  have HCE : Hid (0 < m → ∃ b off, A = some ⟨b, off, none⟩ ∧ ∀ w', Below W.heap.size W w' → ∀ j, j < n → w'.cell? ⟨b, off + j, none⟩ = some (.int .i64 (zs.getD j 0))) := Lib.hid (fun hm0 => by
    obtain ⟨b, off, hA, hcell⟩ := HR.out.at_ (by omega)
    exact ⟨b, off, hA, fun w' hb j hj => (Below.chg hb).cell (hcell j hj) (fun x => x)⟩)
  have HCE : Hid (0 < m → ∃ b off, A = some ⟨b, off, none⟩ ∧ ∀ w', Below W.heap.size W w' → ∀ j, j < n → w'.cell? ⟨b, off + j, none⟩ = some (.int .i64 (zs.getD j 0))) := Lib.hid (fun hm0 => by
    obtain ⟨b, off, hA, hcell⟩ := HR.out.at_ (by omega)
    exact ⟨b, off, hA, fun w' hb j hj => (Below.chg hb).cell (hcell j hj) (fun x => x)⟩)
  go_enter Tryd.func7, Tryd.ntmps7
  go_wp2_with fail
  refine CS.out.mono ?_; rintro e w1 ⟨rfl, hb1⟩
  have HB1 := Lib.hid hb1
  clear hb1 CS
  have HRW : Hid ((w1.alloc (.cells #[.int .i64 25, .int .i64 0, .int .i64 0, .int .i64 16, .int .i64 0, .int .i64 0] 32)).ownsRow 0 32 3 (.slice (some ⟨w1.heap.size, 0, none⟩) 2 2) 2 (insCells (headL 0 0))) := Lib.hid ⟨rfl, .inr ⟨w1.heap.size, 2, _, rfl, Nat.zero_le _, heap_new _ _, Nat.le_refl _, by unfold maxLen; omega, rfl, rfl⟩⟩
  have HOB : Hid (∀ k, (Value.slice (some ⟨w1.heap.size, 0, none⟩) 2 2).ownBlock = some k → W.heap.size ≤ k) := Lib.hid (fun k hk => by
    obtain rfl : w1.heap.size = k := by injection hk
    exact HB1.out.size)
  have HB2 : Hid (Below W.heap.size W (w1.alloc (.cells #[.int .i64 25, .int .i64 0, .int .i64 0, .int .i64 16, .int .i64 0, .int .i64 0] 32))) := Lib.hid (HB1.out.alloc HB1.out.size _)
  go_wp2_with fail
  go_loopg [10, 11] h (fun k V i wr => ∃ j ln : Nat, j ≤ h ∧ k = h - j ∧ i = .int .i64 j ∧ ln = j + 2 ∧ (∃ AV cV, V = .slice AV ln cV) ∧ Hid (wr.ownsRow 0 32 3 V ln (insCells (headL 0 j))) ∧ Hid (∀ k, V.ownBlock = some k → W.heap.size ≤ k) ∧ Hid (Below W.heap.size W wr))
  case atStart => exact ⟨0, 2, by omega, by omega, rfl, by omega, ⟨_, _, rfl⟩, HRW, HOB, HB2⟩
  case round =>
    obtain ⟨j, ln, hj, hk, rfl, hln, ⟨AV, cV, rfl⟩, HO, HOB, HW⟩ := hrel
    have HK := Lib.hid hk
    have hlb : ln ≤ 60 := by omega
    have HLN := Lib.hid hln
    clear hk hln HB1 HB2 HRW
    by_cases hlt : j < h
    · skip
      obtain ⟨wx, hwx⟩ : ∃ wx, wx = wr.alloc (.cells #[.int .i64 25, .int .i64 0, .int .i64 0] 32) := ⟨_, rfl⟩
      have HCX : Hid (Chg (fun k => W.heap.size ≤ k) wr wx) := Lib.hid (by rw [hwx]; exact (Chg.refl _ _).alloc _)
      have HROWX : Hid (wx.ownsRow 0 32 3 (.slice AV ln cV) ln (insCells (headL 0 j))) := Lib.hid (by rw [hwx]; exact ownsRow_kept HO.out ((Chg.refl (fun _ => False) _).alloc _) (fun _ _ e => e))
      have HNEW : Hid (∀ (j : Nat) u, ([.int .i64 25, .int .i64 0, .int .i64 0] : List Value)[j]? = some u → wx.cell? ((⟨wr.heap.size, 0, none⟩ : Addr).add j) = some u) := Lib.hid (World.news_of_block (cs := #[.int .i64 25, .int .i64 0, .int .i64 0]) (t := 32) (fr := (0, 0)) (by rw [hwx]; exact heap_new _ _))
      have HSZ : Hid (wx.heap.size = wr.heap.size + 1) := Lib.hid (by rw [hwx]; simp)
      have HWX := Lib.hid hwx
      clear hwx
      go_wp2_with (at_builtin; rw [← HWX.out]; refine wpList_append_lies _ rfl _ _ _ rfl 0 32 i0 _ 3 24 Tryd.underlying22 hi hz0 hz1 hz2 rfl (by omega) (.slice AV ln cV) ln (insCells (headL 0 j)) rfl HROWX.out ⟨wr.heap.size, 0, none⟩ 1 1 [.int .i64 25, .int .i64 0, .int .i64 0] rfl rfl HNEW.out (by simp [Value.oneCell']) (by omega) (by unfold maxLen; omega) (by omega) (by omega) (wr.heap.size + 1) HSZ.out ?_; intro g2 cap2 w2 hown2 hgrow2 hat2 hlt2; have HW2 : Hid (Below W.heap.size W w2) := Lib.hid (HW.out.trans ((HCX.out.grownBy hgrow2 (fun k hk _ => HOB.out k hk)).below (B := W.heap.size) (fun k hk => hk) HW.out.size)))
      have HOB2 : Hid (∀ k, (Value.slice (some ⟨g2, 0, none⟩) (ln + 1) cap2).ownBlock = some k → W.heap.size ≤ k) := Lib.hid (fun k hk => by
        obtain rfl : g2 = k := by injection hk
        rcases hat2 with h | h
        · exact HOB.out _ h
        · have := HW.out.size; omega)
      have HO2 : Hid (w2.ownsRow 0 32 3 (.slice (some ⟨g2, 0, none⟩) (ln + 1) cap2) (ln + 1) (insCells (headL 0 (j + 1)))) := Lib.hid (by
        have e : insCells (headL 0 (j + 1)) = insCells (headL 0 j) ++ [.int .i64 25, .int .i64 0, .int .i64 0] := by simp [headL, List.replicate_succ', insCells, InsR.cells, clockI]
        rw [e]; exact hown2)
      clear hown2 hgrow2 hat2 HO HOB HW HROWX HNEW HSZ HWX HCX
      go_roundg (h - (j + 1))
      case measure => have := HK.out; omega
      case rel => exact ⟨j + 1, ln + 1, by omega, rfl, by go_num, by have := HLN.out; omega, ⟨_, _, rfl⟩, HO2, HOB2, HW2⟩
    · obtain ⟨wo, hwo⟩ : ∃ wo : World, wo = wr := ⟨_, rfl⟩
      have HJH : Hid (j = h) := Lib.hid (by omega)
      obtain ⟨wx, hwx⟩ : ∃ wx, wx = wr.alloc (.cells #[.int .i64 1, .int .i64 0, .int .i64 1] 32) := ⟨_, rfl⟩
      have HCX : Hid (Chg (fun k => W.heap.size ≤ k) wr wx) := Lib.hid (by rw [hwx]; exact (Chg.refl _ _).alloc _)
      have HROWX : Hid (wx.ownsRow 0 32 3 (.slice AV ln cV) ln (insCells (headL 0 j))) := Lib.hid (by rw [hwx]; exact ownsRow_kept HO.out ((Chg.refl (fun _ => False) _).alloc _) (fun _ _ e => e))
      have HNEW : Hid (∀ (j : Nat) u, ([.int .i64 1, .int .i64 0, .int .i64 1] : List Value)[j]? = some u → wx.cell? ((⟨wr.heap.size, 0, none⟩ : Addr).add j) = some u) := Lib.hid (World.news_of_block (cs := #[.int .i64 1, .int .i64 0, .int .i64 1]) (t := 32) (fr := (0, 0)) (by rw [hwx]; exact heap_new _ _))
      have HSZ : Hid (wx.heap.size = wr.heap.size + 1) := Lib.hid (by rw [hwx]; simp)
      have HWX := Lib.hid hwx
      clear hwx
      go_wp2_with (at_builtin; rw [← HWX.out]; refine wpList_append_lies _ rfl _ _ _ rfl 0 32 i0 _ 3 24 Tryd.underlying22 hi hz0 hz1 hz2 rfl (by omega) (.slice AV ln cV) ln (insCells (headL 0 j)) rfl HROWX.out ⟨wr.heap.size, 0, none⟩ 1 1 [.int .i64 1, .int .i64 0, .int .i64 1] rfl rfl HNEW.out (by simp [Value.oneCell']) (by omega) (by unfold maxLen; omega) (by omega) (by omega) (wr.heap.size + 1) HSZ.out ?_; intro g2 cap2 w2 hown2 hgrow2 hat2 hlt2; have HW2 : Hid (Below W.heap.size W w2) := Lib.hid (HW.out.trans ((HCX.out.grownBy hgrow2 (fun k hk _ => HOB.out k hk)).below (B := W.heap.size) (fun k hk => hk) HW.out.size)))
      have HOB2 : Hid (∀ k, (Value.slice (some ⟨g2, 0, none⟩) (ln + 1) cap2).ownBlock = some k → W.heap.size ≤ k) := Lib.hid (fun k hk => by
        obtain rfl : g2 = k := by injection hk
        rcases hat2 with h | h
        · exact HOB.out _ h
        · have := HW.out.size; omega)
      have HO2 : Hid (w2.ownsRow 0 32 3 (.slice (some ⟨g2, 0, none⟩) (ln + 1) cap2) (ln + 1) (insCells (headL 0 h ++ subsL 1 (zs.take 0)))) := Lib.hid (by
        have e : insCells (headL 0 h ++ subsL 1 (zs.take 0)) = insCells (headL 0 j) ++ [.int .i64 1, .int .i64 0, .int .i64 1] := by rw [HJH.out]; simp [subsL, insCells, InsR.cells, pushR]
        rw [e]; exact hown2)
      clear hown2 hgrow2 hat2 HO HOB HW HROWX HNEW HSZ HWX HCX
      obtain ⟨ln2, hln2⟩ : ∃ ln2, ln2 = ln + 1 := ⟨_, rfl⟩
      have HL2 : Hid (ln2 = h + 3) := Lib.hid (by rw [hln2, HLN.out, HJH.out])
      rw [← hln2] at HO2 HOB2 ⊢
      clear hln2 HLN
      go_loopg [10, 12] m (fun k V i wr => ∃ j ln : Nat, j ≤ m ∧ k = m - j ∧ i = .int .i64 j ∧ ln = h + 3 + 2 * j ∧ (∃ AV cV, V = .slice AV ln cV) ∧ Hid (wr.ownsRow 0 32 3 V ln (insCells (headL 0 h ++ subsL 1 (zs.take j)))) ∧ Hid (∀ k, V.ownBlock = some k → W.heap.size ≤ k) ∧ Hid (Below W.heap.size W wr))
      case atStart => exact ⟨0, ln2, by omega, by omega, rfl, by have := HL2.out; omega, ⟨_, _, rfl⟩, HO2, HOB2, HW2⟩
      case round =>
        obtain ⟨j2, ln, hj2, hk2, rfl, hln, ⟨AV, cV, rfl⟩, HO, HOB, HW⟩ := hrel
        have HK2 := Lib.hid hk2
        have hlb : ln ≤ 80 := by omega
        have HLN := Lib.hid hln
        clear hk2 hln HO2 HOB2 HW2 HL2
        by_cases hlt2 : j2 < m
        · obtain ⟨b3, off3, rfl, hce⟩ := HCE.out (by omega)
          obtain ⟨x, hx⟩ : ∃ x, x = zs.getD j2 0 := ⟨_, rfl⟩
          have d2 := hce wr HW.out j2 (by omega)
          rw [← hx] at d2
          have HTK : Hid (zs.take (j2 + 1) = zs.take j2 ++ [x]) := Lib.hid (by
            have hl := HR.out.length
            rw [List.take_succ_eq_append_getElem (by omega), hx, List.getD_eq_getElem?_getD, List.getElem?_eq_getElem (by omega)]
            rfl)
          have HX := Lib.hid hx
          clear hx hce
          obtain ⟨wx, hwx⟩ : ∃ wx, wx = wr.alloc (.cells #[.int .i64 1, .int .i64 0, .int .i64 x, .int .i64 7, .int .i64 0, .int .i64 0] 32) := ⟨_, rfl⟩
          have HCX : Hid (Chg (fun k => W.heap.size ≤ k) wr wx) := Lib.hid (by rw [hwx]; exact (Chg.refl _ _).alloc _)
          have HROWX : Hid (wx.ownsRow 0 32 3 (.slice AV ln cV) ln (insCells (headL 0 h ++ subsL 1 (zs.take j2)))) := Lib.hid (by rw [hwx]; exact ownsRow_kept HO.out ((Chg.refl (fun _ => False) _).alloc _) (fun _ _ e => e))
          have HNEW : Hid (∀ (j : Nat) u, ([.int .i64 1, .int .i64 0, .int .i64 x, .int .i64 7, .int .i64 0, .int .i64 0] : List Value)[j]? = some u → wx.cell? ((⟨wr.heap.size, 0, none⟩ : Addr).add j) = some u) := Lib.hid (World.news_of_block (cs := #[.int .i64 1, .int .i64 0, .int .i64 x, .int .i64 7, .int .i64 0, .int .i64 0]) (t := 32) (fr := (0, 0)) (by rw [hwx]; exact heap_new _ _))
          have HSZ : Hid (wx.heap.size = wr.heap.size + 1) := Lib.hid (by rw [hwx]; simp)
          have HWX := Lib.hid hwx
          clear hwx
          go_wp2_with (at_builtin; rw [← HWX.out]; refine wpList_append_lies _ rfl _ _ _ rfl 0 32 i0 _ 3 24 Tryd.underlying22 hi hz0 hz1 hz2 rfl (by omega) (.slice AV ln cV) ln (insCells (headL 0 h ++ subsL 1 (zs.take j2))) rfl HROWX.out ⟨wr.heap.size, 0, none⟩ 2 2 [.int .i64 1, .int .i64 0, .int .i64 x, .int .i64 7, .int .i64 0, .int .i64 0] rfl rfl HNEW.out (by simp [Value.oneCell']) (by omega) (by unfold maxLen; omega) (by omega) (by omega) (wr.heap.size + 1) HSZ.out ?_; intro g2 cap2 w2 hown2 hgrow2 hat2 hlt2; have HW2 : Hid (Below W.heap.size W w2) := Lib.hid (HW.out.trans ((HCX.out.grownBy hgrow2 (fun k hk _ => HOB.out k hk)).below (B := W.heap.size) (fun k hk => hk) HW.out.size)))
          have HOB2 : Hid (∀ k, (Value.slice (some ⟨g2, 0, none⟩) (ln + 2) cap2).ownBlock = some k → W.heap.size ≤ k) := Lib.hid (fun k hk => by
            obtain rfl : g2 = k := by injection hk
            rcases hat2 with h | h
            · exact HOB.out _ h
            · have := HW.out.size; omega)
          have HO2 : Hid (w2.ownsRow 0 32 3 (.slice (some ⟨g2, 0, none⟩) (ln + 2) cap2) (ln + 2) (insCells (headL 0 h ++ subsL 1 (zs.take (j2 + 1))))) := Lib.hid (by
            have e : insCells (headL 0 h ++ subsL 1 (zs.take (j2 + 1))) = insCells (headL 0 h ++ subsL 1 (zs.take j2)) ++ [.int .i64 1, .int .i64 0, .int .i64 x, .int .i64 7, .int .i64 0, .int .i64 0] := by rw [HTK.out]; simp [subsL, insCells, InsR.cells, pushR, subI]
            rw [e]; exact hown2)
          clear hown2 hgrow2 hat2 HO HOB HW HROWX HNEW HSZ HWX HCX
          go_roundg (m - (j2 + 1))
          case measure => have := HK2.out; omega
          case rel => exact ⟨j2 + 1, ln + 2, by omega, rfl, by go_num, by have := HLN.out; omega, ⟨_, _, rfl⟩, HO2, HOB2, HW2⟩
        · have HJM : Hid (j2 = m) := Lib.hid (by omega)
          obtain ⟨wx, hwx⟩ : ∃ wx, wx = wr.alloc (.cells #[.int .i64 20, .int .i64 0, .int .i64 0] 32) := ⟨_, rfl⟩
          have HCX : Hid (Chg (fun k => W.heap.size ≤ k) wr wx) := Lib.hid (by rw [hwx]; exact (Chg.refl _ _).alloc _)
          have HROWX : Hid (wx.ownsRow 0 32 3 (.slice AV ln cV) ln (insCells (headL 0 h ++ subsL 1 (zs.take j2)))) := Lib.hid (by rw [hwx]; exact ownsRow_kept HO.out ((Chg.refl (fun _ => False) _).alloc _) (fun _ _ e => e))
          have HNEW : Hid (∀ (j : Nat) u, ([.int .i64 20, .int .i64 0, .int .i64 0] : List Value)[j]? = some u → wx.cell? ((⟨wr.heap.size, 0, none⟩ : Addr).add j) = some u) := Lib.hid (World.news_of_block (cs := #[.int .i64 20, .int .i64 0, .int .i64 0]) (t := 32) (fr := (0, 0)) (by rw [hwx]; exact heap_new _ _))
          have HSZ : Hid (wx.heap.size = wr.heap.size + 1) := Lib.hid (by rw [hwx]; simp)
          have HWX := Lib.hid hwx
          clear hwx
          go_wp2_with (at_builtin; rw [← HWX.out]; refine wpList_append_lies _ rfl _ _ _ rfl 0 32 i0 _ 3 24 Tryd.underlying22 hi hz0 hz1 hz2 rfl (by omega) (.slice AV ln cV) ln (insCells (headL 0 h ++ subsL 1 (zs.take j2))) rfl HROWX.out ⟨wr.heap.size, 0, none⟩ 1 1 [.int .i64 20, .int .i64 0, .int .i64 0] rfl rfl HNEW.out (by simp [Value.oneCell']) (by omega) (by unfold maxLen; omega) (by omega) (by omega) (wr.heap.size + 1) HSZ.out ?_; intro g2 cap2 w2 hown2 hgrow2 hat2 hlt2; have HW2 : Hid (Below W.heap.size W w2) := Lib.hid (HW.out.trans ((HCX.out.grownBy hgrow2 (fun k hk _ => HOB.out k hk)).below (B := W.heap.size) (fun k hk => hk) HW.out.size)))
          have HOB2 : Hid (∀ k, (Value.slice (some ⟨g2, 0, none⟩) (ln + 1) cap2).ownBlock = some k → W.heap.size ≤ k) := Lib.hid (fun k hk => by
            obtain rfl : g2 = k := by injection hk
            rcases hat2 with h | h
            · exact HOB.out _ h
            · have := HW.out.size; omega)
          have HO2 : Hid (w2.ownsRow 0 32 3 (.slice (some ⟨g2, 0, none⟩) (ln + 1) cap2) (ln + 1) (insCells (headL 0 h ++ (subsL 1 (zs.take m) ++ keepI :: loadsL 0)))) := Lib.hid (by
            have e : insCells (headL 0 h ++ (subsL 1 (zs.take m) ++ keepI :: loadsL 0)) = insCells (headL 0 h ++ subsL 1 (zs.take j2)) ++ [.int .i64 20, .int .i64 0, .int .i64 0] := by rw [HJM.out]; simp [loadsL, insCells, InsR.cells, keepI]
            rw [e]; exact hown2)
          clear hown2 hgrow2 hat2 HO HOB HW HROWX HNEW HSZ HWX HCX
          obtain ⟨ln2, hln2⟩ : ∃ ln2, ln2 = ln + 1 := ⟨_, rfl⟩
          have HL2 : Hid (ln2 = h + 4 + 2 * m) := Lib.hid (by rw [hln2, HLN.out, HJM.out]; omega)
          have hl2b : ln2 ≤ 100 := by rw [HL2.out]; omega
          rw [← hln2] at HO2 HOB2
          have hln2c : (ln : Int) + 1 = (ln2 : Int) := by omega
          rw [← hln2]
          simp only [hln2c]
          clear HLN hln2c hln2
          go_loopg [10, 14] (1 + q) (fun k V i wr => ∃ j ln : Nat, j ≤ 1 + q ∧ k = 1 + q - j ∧ i = .int .i64 j ∧ ln = h + 4 + 2 * m + j ∧ (∃ AV cV, V = .slice AV ln cV) ∧ Hid (wr.ownsRow 0 32 3 V ln (insCells (headL 0 h ++ (subsL 1 (zs.take m) ++ keepI :: loadsL j)))) ∧ Hid (∀ k, V.ownBlock = some k → W.heap.size ≤ k) ∧ Hid (Below W.heap.size W wr))
          case atStart => exact ⟨0, ln2, by omega, by omega, rfl, by have := HL2.out; omega, ⟨_, _, rfl⟩, HO2, HOB2, HW2⟩
          case round =>
            obtain ⟨j3, ln, hj3, hk3, rfl, hln, ⟨AV, cV, rfl⟩, HO, HOB, HW⟩ := hrel
            have HK3 := Lib.hid hk3
            have hlb : ln ≤ 150 := by omega
            have HLN := Lib.hid hln
            clear hk3 hln HO2 HOB2 HW2
            by_cases hlt3 : (j3 : Int) < 1 + (q : Int)
            · skip
              obtain ⟨wx, hwx⟩ : ∃ wx, wx = wr.alloc (.cells #[.int .i64 2, .int .i64 j3, .int .i64 0] 32) := ⟨_, rfl⟩
              have HCX : Hid (Chg (fun k => W.heap.size ≤ k) wr wx) := Lib.hid (by rw [hwx]; exact (Chg.refl _ _).alloc _)
              have HROWX : Hid (wx.ownsRow 0 32 3 (.slice AV ln cV) ln (insCells (headL 0 h ++ (subsL 1 (zs.take m) ++ keepI :: loadsL j3)))) := Lib.hid (by rw [hwx]; exact ownsRow_kept HO.out ((Chg.refl (fun _ => False) _).alloc _) (fun _ _ e => e))
              have HNEW : Hid (∀ (j : Nat) u, ([.int .i64 2, .int .i64 j3, .int .i64 0] : List Value)[j]? = some u → wx.cell? ((⟨wr.heap.size, 0, none⟩ : Addr).add j) = some u) := Lib.hid (World.news_of_block (cs := #[.int .i64 2, .int .i64 j3, .int .i64 0]) (t := 32) (fr := (0, 0)) (by rw [hwx]; exact heap_new _ _))
              have HSZ : Hid (wx.heap.size = wr.heap.size + 1) := Lib.hid (by rw [hwx]; simp)
              have HWX := Lib.hid hwx
              clear hwx
              go_wp2_with (at_builtin; rw [← HWX.out]; refine wpList_append_lies _ rfl _ _ _ rfl 0 32 i0 _ 3 24 Tryd.underlying22 hi hz0 hz1 hz2 rfl (by omega) (.slice AV ln cV) ln (insCells (headL 0 h ++ (subsL 1 (zs.take m) ++ keepI :: loadsL j3))) rfl HROWX.out ⟨wr.heap.size, 0, none⟩ 1 1 [.int .i64 2, .int .i64 j3, .int .i64 0] rfl rfl HNEW.out (by simp [Value.oneCell']) (by omega) (by unfold maxLen; omega) (by omega) (by omega) (wr.heap.size + 1) HSZ.out ?_; intro g2 cap2 w2 hown2 hgrow2 hat2 hlt2; have HW2 : Hid (Below W.heap.size W w2) := Lib.hid (HW.out.trans ((HCX.out.grownBy hgrow2 (fun k hk _ => HOB.out k hk)).below (B := W.heap.size) (fun k hk => hk) HW.out.size)))
              have HOB2 : Hid (∀ k, (Value.slice (some ⟨g2, 0, none⟩) (ln + 1) cap2).ownBlock = some k → W.heap.size ≤ k) := Lib.hid (fun k hk => by
                obtain rfl : g2 = k := by injection hk
                rcases hat2 with h | h
                · exact HOB.out _ h
                · have := HW.out.size; omega)
              have HO2 : Hid (w2.ownsRow 0 32 3 (.slice (some ⟨g2, 0, none⟩) (ln + 1) cap2) (ln + 1) (insCells (headL 0 h ++ (subsL 1 (zs.take m) ++ keepI :: loadsL (j3 + 1))))) := Lib.hid (by
                have e : insCells (headL 0 h ++ (subsL 1 (zs.take m) ++ keepI :: loadsL (j3 + 1))) = insCells (headL 0 h ++ (subsL 1 (zs.take m) ++ keepI :: loadsL j3)) ++ [.int .i64 2, .int .i64 j3, .int .i64 0] := by simp [loadsL, List.range_succ, insCells, InsR.cells]
                rw [e]; exact hown2)
              clear hown2 hgrow2 hat2 HO HOB HW HROWX HNEW HSZ HWX HCX
              go_roundg (1 + q - (j3 + 1))
              case measure => have := HK3.out; omega
              case rel => exact ⟨j3 + 1, ln + 1, by omega, rfl, by go_num, by have := HLN.out; omega, ⟨_, _, rfl⟩, HO2, HOB2, HW2⟩
            · have HJQ : Hid (j3 = 1 + q) := Lib.hid (by omega)
              obtain ⟨Z, hZ⟩ : ∃ Z, Z = zs.take m := ⟨_, rfl⟩
              have HZL : Hid (Z.length = m) := Lib.hid (by rw [hZ, List.length_take]; have := HR.out.length; omega)
              have hrow := HO.out
              rw [HJQ.out, ← hZ] at hrow
              have hLN : ln = h + 4 + 2 * m + (1 + q) := by rw [HLN.out, HJQ.out]
              obtain ⟨g, cap, e, hgl, hcells⟩ := ownsRow_at hrow (by omega)
              injection e with e1 e2 e3
              subst e1 e3
              have hcap : ln ≤ cV := by
                rcases hrow.2 with ⟨e, _⟩ | ⟨_, _, _, e, _, _, h, _⟩
                · cases e
                · injection e with _ _ e; omega
              have hf : wr.frozen? ⟨g, 4, none⟩ = false := by
                rcases hrow.2 with ⟨e, _⟩ | ⟨g', _, _, e, _, hh, _⟩
                · cases e
                · injection e with e _ _
                  injection e with e
                  injection e with e
                  subst e
                  exact frozen_of_block hh _
              have c4 : wr.cell? ⟨g, 4, none⟩ = some (.int .i64 0) := hcells 4 _ rfl
              obtain ⟨T, hT⟩ : ∃ T : Int, T = (ln2 : Int) + t0 := ⟨_, rfl⟩
              have hT0 : T = (h : Int) + 4 + 2 * (Z.length : Nat) + t0 := by rw [hT, HL2.out, HZL.out]; omega
              have hset := ownsRow_set hrow 4 (by omega) (.int .i64 T)
              have hcs : (insCells (headL 0 h ++ (subsL 1 Z ++ keepI :: loadsL (1 + q)))).set 4 (.int .i64 T) = insCells (jumpL T h 1 Z (1 + q)) := by simp [jumpL, headL, insCells, InsR.cells, clockI]
              rw [hcs] at hset
              obtain ⟨ws, hws⟩ : ∃ ws, ws = wr.setCell ⟨g, 4, none⟩ (.int .i64 T) := ⟨_, rfl⟩
              rw [← hws] at hset
              have HWS : Hid (Below W.heap.size W ws) := Lib.hid (HW.out.trans (((Chg.refl (fun k => W.heap.size ≤ k) wr).setCell (p := ⟨g, 4, none⟩) (fun _ => HOB.out g rfl) (.int .i64 T)).below (B := W.heap.size) (fun k hk => hk) HW.out.size |> fun x => by rw [hws]; exact x))
              obtain ⟨p, hp⟩ : ∃ p, p = h + 4 + (1 + q) := ⟨_, rfl⟩
              have CF : Hid (Calls Tryd.prog 10 #[.slice (some ⟨g, 0, none⟩) ln cV] ws fun e w' => ∃ b2 o2 c2, e = .returned (.slice (some ⟨b2, o2, none⟩) p c2) ∧ p ≤ c2 ∧ (w'.cell? ⟨b2, o2 + 3, none⟩ = some (.int .i64 16) ∧ w'.cell? ⟨b2, o2 + 4, none⟩ = some (.int .i64 ((h + 4 + t0 : Nat) : Int)) ∧ w'.cell? ⟨b2, o2 + (h + 4 + t0) * 3, none⟩ = some (.int .i64 2) ∧ w'.cell? ⟨b2, o2 + (h + 4 + t0) * 3 + 1, none⟩ = some (.int .i64 (t0 : Int)) ∧ w'.cell? ⟨b2, o2 + (h + 4 + t0) * 3 + 2, none⟩ = some (.int .i64 0)) ∧ Below ws.heap.size ws w') := Lib.hid (by
                have hll : (jumpL T h 1 Z (1 + q)).length = ln := by rw [jumpL_len, HZL.out]; omega
                refine (fold_any (v := .slice (some ⟨g, 0, none⟩) ln cV) (l := jumpL T h 1 Z (1 + q)) (by rw [hll]; exact Src.of_row hset) (by rw [hll]; omega) (jump_wf _ _ _ _ _ (by unfold In64; omega) (by omega))).mono ?_
                rintro e w' ⟨v', rfl, ho2, _, hb2⟩
                rw [hT0, jump_fold h (1 + q) t0 htq Z 1] at ho2
                have hl2 : (jumpL ((h : Int) + 4 + t0) h (subV 1 Z) [] (1 + q)).length = p := by rw [jumpL_len, hp]; simp
                have hs2 := Src.of_row ho2
                obtain ⟨b2, o2, c2, rfl, _, hc2, x0, x1, _⟩ := hs2.get 1 (by rw [hl2]; omega)
                obtain ⟨b2', o2', c2', e', _, _, y0, y1, y2⟩ := hs2.get (h + 4 + t0) (by rw [hl2]; omega)
                injection e' with e1 _ e3
                injection e1 with e1
                injection e1 with e1 e1b
                subst e1 e1b e3
                have hel : (jumpL ((h : Int) + 4 + t0) h (subV 1 Z) [] (1 + q))[h + 4 + t0]'(by rw [hl2]; omega) = ⟨2, (t0 : Int), 0⟩ := by
                  have e : (jumpL ((h : Int) + 4 + t0) h (subV 1 Z) [] (1 + q))[h + 4 + t0]? = some ⟨2, (t0 : Int), 0⟩ := by
                    unfold jumpL
                    rw [List.getElem?_append_right (by rw [headL_len]; omega), headL_len, show h + 4 + t0 - (h + 2) = t0 + 2 by omega]
                    simp [subsL, loadsL, htq]
                  rw [List.getElem?_eq_getElem (by rw [hl2]; omega)] at e
                  injection e
                rw [hel] at y0 y1 y2
                rw [hl2] at hc2 ⊢
                exact ⟨b2, o2, c2, rfl, hc2, ⟨x0, by rw [show ((h + 4 + t0 : Nat) : Int) = (h : Int) + 4 + t0 by omega]; exact x1, y0, y1, y2⟩, hb2⟩)
              have HWSD := Lib.hid hws
              have HTD := Lib.hid hT
              have hpb : p ≤ 100 := by omega
              have hln1 : 4 ≤ ln := by omega
              have hp5 : 5 ≤ p := by omega
              have hpk : 2 + h + 2 + t0 < p := by omega
              have q1 : ((p : Int) == 2 + (h : Int) + 2 + (1 + (q : Int))) = true := by rw [beq_iff_eq]; omega
              have hln2b : (ln2 : Int) + t0 ≤ 1000 := by omega
              clear hws hset hcs hrow hcells HO HOB HZL hZ hT0 hT hLN
              have HP := Lib.hid hp
              clear hp
              replace CF : Hid (Calls Tryd.prog 10 #[.slice (some ⟨g, 0, none⟩) ln cV] ws fun e w' => ∃ b2 o2 c2, e = .returned (.slice (some ⟨b2, o2, none⟩) p c2) ∧ p ≤ c2 ∧ (w'.cell? ⟨b2, o2 + 3, none⟩ = some (.int .i64 16) ∧ w'.cell? ⟨b2, o2 + 4, none⟩ = some (.int .i64 (2 + (h : Int) + 2 + (t0 : Int))) ∧ w'.cell? ⟨b2, o2 + (2 + h + 2 + t0) * 3, none⟩ = some (.int .i64 2) ∧ w'.cell? ⟨b2, o2 + (2 + h + 2 + t0) * 3 + 1, none⟩ = some (.int .i64 (t0 : Int)) ∧ w'.cell? ⟨b2, o2 + (2 + h + 2 + t0) * 3 + 2, none⟩ = some (.int .i64 0)) ∧ Below ws.heap.size ws w') := Lib.hid (by
                have e1 : h + 4 + t0 = 2 + h + 2 + t0 := by omega
                have e2 : ((2 + h + 2 + t0 : Nat) : Int) = 2 + (h : Int) + 2 + (t0 : Int) := by omega
                have h := CF.out
                rw [e1, e2] at h
                exact h)
              go_wp2_with fail
              rw [← HTD.out, ← HWSD.out]
              refine CF.out.mono ?_; rintro e w3 ⟨b2, o2, c2, rfl, hc2, ⟨p0, p1, p2, p3, p4⟩, hb3⟩
              have HB3 := Lib.hid (bel_trans HWS.out hb3)
              clear hb3 CF c4 hf
              go_wp2_with fail
              go_ret
              exact ⟨rfl, HB3.out⟩
end Go.Proofs.YtnecgfofefinaaaDoor
