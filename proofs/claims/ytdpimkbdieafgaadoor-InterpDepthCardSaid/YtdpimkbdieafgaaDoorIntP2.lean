/- law14: same. -/
import Derived.Test.YtdpimkbdieafgaaDoorIntP
namespace Go.Proofs.YtdpimkbdieafgaaDoor
set_option linter.unusedVariables false
set_option linter.unusedSimpArgs false
open Go.RowKit

theorem belowN {B : Nat} {a w : World} (h : Below B a w) (n : Nat) : Below B a (w.drewN n) := h.trans ⟨rfl, rfl, rfl, Nat.le_refl _, fun _ _ => rfl⟩
theorem NumSrc.drewN {w : World} {V : Value} {l : List Int} (h : NumSrc w V l) (k : Nat) : NumSrc (w.drewN k) V l := h.keep (belowN (Below.refl _ _) k)
set_option maxHeartbeats 4000000 in
set_option maxRecDepth 100000 in
theorem same_any {w : World} {v1 v2 : Value} {a b : OutR} (h1 : OutIs w v1 a) (h2 : OutIs w v2 b) :
    Calls Tryd.prog 14 #[v1, v2] w fun e w' => e = .returned (.bool (sameV a b)) ∧ Below w.heap.size w w' := by
  obtain ⟨p1, k1, c1, clk1, res1, err1⟩ := a
  obtain ⟨p2, k2, c2, clk2, res2, err2⟩ := b
  obtain ⟨P1, K1, C1, rfl, hp1, hk1, hc1⟩ := h1
  obtain ⟨P2, K2, C2, rfl, hp2, hk2, hc2⟩ := h2
  simp only at hp1 hk1 hc1 hp2 hk2 hc2
  obtain ⟨AP1, BP1, rfl⟩ := hp1.shape
  obtain ⟨AK1, BK1, rfl⟩ := hk1.shape
  obtain ⟨AC1, BC1, rfl⟩ := hc1.shape
  obtain ⟨AP2, BP2, rfl⟩ := hp2.shape
  obtain ⟨AK2, BK2, rfl⟩ := hk2.shape
  obtain ⟨AC2, BC2, rfl⟩ := hc2.shape
  obtain ⟨wa, hwa⟩ : ∃ z, z = w.alloc (.cells #[.slice AP1 p1.length BP1, .slice AK1 k1.length BK1, .slice AC1 c1.length BC1, .int .i64 clk1, .int .i64 res1, .int .i64 err1] 32) := ⟨_, rfl⟩
  obtain ⟨w0, hw0⟩ : ∃ z, z = wa.alloc (.cells #[.slice AP2 p2.length BP2, .slice AK2 k2.length BK2, .slice AC2 c2.length BC2, .int .i64 clk2, .int .i64 res2, .int .i64 err2] 32) := ⟨_, rfl⟩
  obtain ⟨Q1, hQ1⟩ : ∃ z, z = w.heap.size := ⟨_, rfl⟩
  obtain ⟨Q2, hQ2⟩ : ∃ z, z = wa.heap.size := ⟨_, rfl⟩
  have e2 : Q2 = w.heap.size + 1 := by rw [hQ2, hwa]; show (w.heap.push _).size = _; exact Array.size_push _
  have b0 : Below w.heap.size w w0 := by rw [hw0, hwa]; exact ((Below.refl _ _).alloc (Nat.le_refl _) _).alloc (by rw [← hwa, ← hQ2, e2]; omega) _
  have x1 : w0.heap[Q1]? = some (.cells #[.slice AP1 p1.length BP1, .slice AK1 k1.length BK1, .slice AC1 c1.length BC1, .int .i64 clk1, .int .i64 res1, .int .i64 err1] 32 (0, 0)) := by
    rw [hw0]
    exact ((Chg.refl (fun _ => False) wa).alloc _).heap (by rw [hwa]; exact heap_new' hQ1.symm) (fun x => x)
  have x2 : w0.heap[Q2]? = some (.cells #[.slice AP2 p2.length BP2, .slice AK2 k2.length BK2, .slice AC2 c2.length BC2, .int .i64 clk2, .int .i64 res2, .int .i64 err2] 32 (0, 0)) := by rw [hw0]; exact heap_new' hQ2.symm
  have y10 := cell_of_block x1 0
  have y11 := cell_of_block x1 1
  have y12 := cell_of_block x1 2
  have y13 := cell_of_block x1 3
  have y14 := cell_of_block x1 4
  have y15 := cell_of_block x1 5
  have y20 := cell_of_block x2 0
  have y21 := cell_of_block x2 1
  have y22 := cell_of_block x2 2
  have y23 := cell_of_block x2 3
  have y24 := cell_of_block x2 4
  have y25 := cell_of_block x2 5
  simp at y10 y11 y12 y13 y14 y15 y20 y21 y22 y23 y24 y25
  obtain ⟨rp, hrp⟩ : ∃ r, decide (p1 = p2) = r := ⟨_, rfl⟩
  obtain ⟨rk, hrk⟩ : ∃ r, decide (k1 = k2) = r := ⟨_, rfl⟩
  obtain ⟨rc, hrc⟩ : ∃ r, decide (c1 = c2) = r := ⟨_, rfl⟩
  have CP := Lib.hid (fun (w' : World) (hb : Below w.heap.size w w') => hrp ▸ rows_any (hp1.keep hb) (hp2.keep hb))
  have CK := Lib.hid (fun (w' : World) (hb : Below w.heap.size w w') => hrk ▸ rows_any (hk1.keep hb) (hk2.keep hb))
  have CC := Lib.hid (fun (w' : World) (hb : Below w.heap.size w w') => hrc ▸ rows_any (hc1.keep hb) (hc2.keep hb))
  obtain ⟨R, hR⟩ : ∃ R, R = sameV ⟨p1, k1, c1, clk1, res1, err1⟩ ⟨p2, k2, c2, clk2, res2, err2⟩ := ⟨_, rfl⟩
  have hR2 : R = (rp && rk && rc && decide (clk1 = clk2) && decide (res1 = res2) && decide (err1 = err2)) := by rw [hR, ← hrp, ← hrk, ← hrc]; rfl
  rw [← hR]
  generalize p1.length = lp1 at *
  generalize k1.length = lk1 at *
  generalize c1.length = lc1 at *
  generalize p2.length = lp2 at *
  generalize k2.length = lk2 at *
  generalize c2.length = lc2 at *
  have HR := Lib.hid hR2
  have HB := Lib.hid b0
  have HWE := Lib.hid (And.intro hwa (And.intro hw0 (And.intro e2 hQ1)))
  clear hR hR2 hrp hrk hrc b0 hwa hw0 e2 hQ1 hQ2 hp1 hk1 hc1 hp2 hk2 hc2 x1 x2
  go_enter Tryd.func14, Tryd.ntmps14
  go_upto_region 1 with fail
  rw [← HWE.out.1, ← HWE.out.2.1, ← HWE.out.2.2.1, ← HWE.out.2.2.2]
  go_wp2_with fail
  refine (CP.out w0 HB.out).mono ?_; rintro e ww ⟨rfl, q1, rfl⟩
  cases rp with
  | false =>
    go_wp2_with fail
    go_ret
    obtain rfl : R = false := by rw [HR.out]; simp
    exact ⟨rfl, (belowN HB.out _)⟩
  | true =>
    go_wp2_with fail
    refine (CK.out (w0.drewN q1) (belowN HB.out _)).mono ?_; rintro e ww ⟨rfl, q2, rfl⟩
    cases rk with
    | false =>
      go_wp2_with fail
      go_ret
      obtain rfl : R = false := by rw [HR.out]; simp
      exact ⟨rfl, (belowN HB.out _)⟩
    | true =>
      go_wp2_with fail
      refine (CC.out (w0.drewN (q1 + q2)) (belowN HB.out _)).mono ?_; rintro e ww ⟨rfl, q3, rfl⟩
      cases rc with
      | false =>
        go_wp2_with fail
        go_ret
        obtain rfl : R = false := by rw [HR.out]; simp
        exact ⟨rfl, (belowN HB.out _)⟩
      | true =>
        by_cases h0 : clk1 = clk2
        · subst h0
          by_cases h1 : res1 = res2
          · subst h1
            by_cases h2 : err1 = err2
            · subst h2
              go_wp2_with fail
              go_ret
              obtain rfl : R = true := by rw [HR.out]; simp
              exact ⟨rfl, (belowN HB.out _)⟩
            · have HH := Lib.hid h2
              go_wp2_with fail
              go_ret
              obtain rfl : R = false := by rw [HR.out]; simp [HH.out]
              exact ⟨by first | rfl | (simp [HH.out]), (belowN HB.out _)⟩
          · have HH := Lib.hid h1
            go_wp2_with fail
            go_ret
            obtain rfl : R = false := by rw [HR.out]; simp [HH.out]
            exact ⟨by first | rfl | (simp [HH.out]), (belowN HB.out _)⟩
        · have HH := Lib.hid h0
          go_wp2_with fail
          go_ret
          obtain rfl : R = false := by rw [HR.out]; simp [HH.out]
          exact ⟨by first | rfl | (simp [HH.out]), (belowN HB.out _)⟩
end Go.Proofs.YtdpimkbdieafgaaDoor
