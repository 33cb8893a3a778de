/- HeapQuota: the walk of the law. -/
import Derived.Test.YtjoibhaohmifcaaHeapShown
import Derived.Deep.LoopGhost
import Derived.Lib.Hide
import Derived.OpenShut
namespace Go.Proofs.Ytjoibhaohmifcaa
set_option linter.unusedVariables false
set_option linter.unusedSimpArgs false
open Go.RowKit Go.Deep

theorem cellv_new (xss : List (List Int)) (n : Nat) (h : 0 < n) : cellv (xss ++ [List.replicate n 0]) xss.length (n - 1) = some 0 := by
  unfold cellv
  rw [if_pos (by omega)]
  simp [show ((n : Int) - 1).toNat = n - 1 by omega, List.getElem?_replicate]
  omega
theorem total_new (xss : List (List Int)) (n : Nat) : total (xss ++ [List.replicate n 0]) = total xss + n := by
  rw [total_append]
  simp [total]

def QRel (w0 : World) (g len : Nat) (most : Int) (k : Nat) (used n i : Value) (wr : World) : Prop :=
  ∃ (j : Nat) (xss : List (List Int)), j ≤ len ∧ j ≤ 50 ∧ k = 50 - j ∧ i = .int .i64 j ∧ n = .int .i64 xss.length ∧ xss.length ≤ j ∧ used = .int .i64 (total xss) ∧ total xss ≤ most ∧ HB w0 wr g most xss

set_option maxHeartbeats 4000000 in
set_option maxRecDepth 100000 in
theorem quota_walk (quota : Int) (a : Option Addr) (len cap : Nat) (zs : List Int) (w : World) (hq0 : 0 ≤ quota) (hq1 : quota ≤ 65535) (hlen : len ≤ 9223372036854775807)
    (hr : 0 < len → ∃ b off, a = some ⟨b, off, none⟩ ∧ ∀ j, j < len → w.cell? ⟨b, off + j, none⟩ = some (.int .i16 (zs.getD j 0)) ∧ -32768 ≤ zs.getD j 0 ∧ zs.getD j 0 ≤ 32767) :
    Calls Try.prog 5 #[.int .u16 quota, .slice a len cap] w fun e w' => e = .returned (.bool true) ∧ Below w.heap.size w w' := by
  suffices hs : ∀ w0, w0 = w → Calls Try.prog 5 #[.int .u16 quota, .slice a len cap] w fun e w' => e = .returned (.bool true) ∧ Below w0.heap.size w0 w' from hs w rfl
  intro w0 hw0
  have HR := Lib.hid hr
  have HW := Lib.hid hw0
  clear hr hw0
  go_enter Try.func5, Try.ntmps5
  go_wp2_with fail
  refine (shown_any _).mono ?_; rintro e w1 ⟨rfl, hb1⟩
  have HB1 : Hid (Below w0.heap.size w0 w1) := by rw [HW.out]; exact hb1
  clear hb1
  go_wp2_with fail
  refine (HB.new HB1.out _ (quota % 10001) ?_).mono ?_
  · unfold clampq; rw [if_neg (by omega), if_neg (by omega)]
  rintro e w2 ⟨g, rfl, h⟩
  go_wp2_with fail
  go_loopg [8, 9, 10] 50 (fun k used n i wr => QRel w0 g len (quota % 10001) k used n i wr)
  case atStart => exact ⟨0, [], by omega, by omega, rfl, rfl, rfl, by simp, rfl, by unfold total; simp; omega, h⟩
  case round =>
    obtain ⟨j, xss, hj1, hj2, hk, rfl, rfl, hxj, rfl, htm, h⟩ := hrel
    have h0 := total_nonneg xss
    have HK := Lib.hid hk
    clear hk
    obtain ⟨T, hT⟩ : ∃ T, T = total xss := ⟨_, rfl⟩
    have HT := Lib.hid hT
    rw [← hT]
    rw [← hT] at h0 htm
    clear hT
    obtain ⟨n, hn⟩ : ∃ n, n = xss.length := ⟨_, rfl⟩
    rw [← hn]
    rw [← hn] at hxj
    have HN := Lib.hid hn
    clear hn
    by_cases hlt : j < len
    · obtain ⟨b, off, rfl, hc⟩ := HR.out (by omega)
      obtain ⟨hcj, hz1, hz2⟩ := hc j hlt
      clear hc
      have hcw : wr.cell? ⟨b, off + j, none⟩ = some (.int .i16 (zs.getD j 0)) := by
        have e : w.cell? ⟨b, off + j, none⟩ = some (.int .i16 (zs.getD j 0)) := hcj
        have hbl := World.block_lt_of_cell? w _ e
        have := h.bel.cell (p := ⟨b, off + j, none⟩) (by rw [HW.out]; exact hbl)
        rw [this, HW.out]; exact e
      clear hcj
      generalize zs.getD j 0 = s at *
      by_cases h50 : j < 50
      · by_cases hs1 : s < 1 ∨ 4096 < s
        · have hm : makev (quota % 10001) xss s = (0, 1, xss) := by unfold makev; rw [if_pos hs1]
          have HM := Lib.hid hm
          have HS := Lib.hid hs1
          clear hm
          have hcs : (s < 1 ∧ T + s ≤ quota % 10001) ∨ (4096 < s ∧ T + s ≤ quota % 10001) ∨ (4096 < s ∧ quota % 10001 < T + s) := by omega
          clear hs1
          rcases hcs with ⟨hs1, hq⟩ | ⟨hs1, hq⟩ | ⟨hs1, hq⟩
          all_goals
            go_wp2_with fail
            refine (h.make s 0 1 xss HM.out).mono ?_; rintro e w3 ⟨rfl, h3⟩
            go_wp2_with fail
            refine (h3.used T HT.out.symm).mono ?_; rintro e w4 ⟨rfl, rfl⟩
            go_wp2_with fail
            go_roundg (49 - j)
            case measure => have := HK.out; omega
            case rel => exact ⟨j + 1, xss, by omega, by omega, by omega, by go_num, by rw [HN.out], by rw [← HN.out]; omega, by rw [HT.out], by rw [← HT.out]; omega, h3⟩
        · have hs3 : 1 ≤ s := by omega
          have hs4 : s ≤ 4096 := by omega
          by_cases hq : quota % 10001 < T + s
          · have hm : makev (quota % 10001) xss s = (0, 9, xss) := by unfold makev; rw [if_neg hs1, if_pos (by rw [← HT.out]; omega)]
            have HM := Lib.hid hm
            clear hm hs1
            go_wp2_with fail
            refine (h.make s 0 9 xss HM.out).mono ?_; rintro e w3 ⟨rfl, h3⟩
            go_wp2_with fail
            refine (h3.used T HT.out.symm).mono ?_; rintro e w4 ⟨rfl, rfl⟩
            go_wp2_with fail
            go_roundg (49 - j)
            case measure => have := HK.out; omega
            case rel => exact ⟨j + 1, xss, by omega, by omega, by omega, by go_num, by rw [HN.out], by rw [← HN.out]; omega, by rw [HT.out], by rw [← HT.out]; omega, h3⟩
          · have hm : makev (quota % 10001) xss s = ((n : Int), 0, xss ++ [List.replicate s.toNat 0]) := by unfold makev; rw [if_neg hs1, if_neg (by rw [← HT.out]; omega), HN.out]
            have HM := Lib.hid hm
            have hs0 : (0 : Int) ≤ s := by omega
            have hc : cellv (xss ++ [List.replicate s.toNat 0]) n (s - 1) = some 0 := by
              have := cellv_new xss s.toNat (by omega)
              rw [HN.out]
              rwa [Int.toNat_of_nonneg hs0] at this
            have HC := Lib.hid hc
            have ht : total (xss ++ [List.replicate s.toNat 0]) = T + s := by rw [total_new, ← HT.out]; omega
            have HT2 := Lib.hid ht
            clear hm hs1 hc ht
            go_wp2_with fail
            refine (h.make s n 0 _ HM.out).mono ?_; rintro e w3 ⟨rfl, h3⟩
            go_wp2_with fail
            refine (h3.get n (s - 1) 0 true (by rw [HC.out]; exact ⟨rfl, rfl⟩)).mono ?_; rintro e w4 ⟨rfl, rfl⟩
            go_wp2_with fail
            refine (h3.used (T + s) HT2.out).mono ?_; rintro e w4 ⟨rfl, rfl⟩
            go_wp2_with fail
            go_roundg (49 - j)
            case measure => have := HK.out; omega
            case rel => exact ⟨j + 1, _, by omega, by omega, by omega, by go_num, by rw [List.length_append, ← HN.out]; simp, by rw [List.length_append, ← HN.out]; simp; omega, by rw [HT2.out], by rw [HT2.out]; omega, h3⟩
      · go_wp2_with fail
        go_ret
        exact ⟨rfl, h.bel⟩
    · go_wp2_with fail
      go_ret
      exact ⟨rfl, h.bel⟩

theorem heapQuota_walk (quota : Int) (a : Option Addr) (len cap : Nat) (zs : List Int) (w : World) (hq : (Lit.int .u16 quota).wf = true) (hr : IntRow .i16 w a len zs) (hl : len * 2 ≤ 140737488351232) :
    Calls Try.prog 5 #[.int .u16 quota, .slice a len cap] w fun e w' => e = .returned (.bool true) ∧ Below w.heap.size w w' := by
  obtain ⟨h0, h1⟩ := bounds_u16 hq
  refine quota_walk quota a len cap zs w h0 h1 (by omega) (fun hp => ?_)
  obtain ⟨b, off, rfl, hc⟩ := hr.at_ hp
  exact ⟨b, off, rfl, fun j hj => ⟨hc j hj, bounds_i16 (hr.wfD j hj)⟩⟩
end Go.Proofs.Ytjoibhaohmifcaa
