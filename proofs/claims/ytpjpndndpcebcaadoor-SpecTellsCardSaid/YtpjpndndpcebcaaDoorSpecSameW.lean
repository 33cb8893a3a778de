/- law17: same. -/
import Derived.Test.YtpjpndndpcebcaaDoorSpecC
import Derived.Test.YtpjpndndpcebcaaDoorLaid
import Derived.Test.YtpjpndndpcebcaaDoorOrd
import Derived.Deep.AppendLies
import Derived.BigQuiet
namespace Go.Proofs.YtpjpndndpcebcaaDoor
set_option linter.unusedVariables false
set_option linter.unusedSimpArgs false
open Go.RowKit

theorem insCells_snoc (l : List InsR) (x : InsR) : insCells (l ++ [x]) = insCells l ++ x.cells := by simp [insCells]
theorem infoRIns : (Tryd.prog.info? 41).map (fun i => (i.zero, i.size, i.bytes)) = some (some (.agg #[.int .i64 0, .int .i64 0, .int .i64 0]), 3, 24) := by kernel_rfl

set_option maxHeartbeats 4000000 in
set_option maxRecDepth 100000 in
theorem same_any {w : World} {v1 v2 : Value} {xs ys : List InsR} (h1 : Src w v1 xs.length (insCells xs)) (h2 : Src w v2 ys.length (insCells ys)) (hm1 : xs.length ≤ 1048576) (hm2 : ys.length ≤ 1048576) :
    Calls Tryd.prog 7 #[v1, v2] w fun e w' => e = .returned (.bool (decide (xs = ys))) ∧ Below w.heap.size w w' := by
  obtain ⟨_, A, c, rfl⟩ := h1.bound
  obtain ⟨_, B, d, rfl⟩ := h2.bound
  have HA := Lib.hid h1
  have HB := Lib.hid h2
  clear h1 h2
  obtain ⟨n, hn⟩ : ∃ n, n = xs.length := ⟨_, rfl⟩
  obtain ⟨m, hm⟩ : ∃ m, m = ys.length := ⟨_, rfl⟩
  rw [← hn] at hm1 ⊢
  rw [← hm] at hm2 ⊢
  have HN := Lib.hid hn
  have HM := Lib.hid hm
  clear hn hm
  by_cases hl : n = m
  · subst hl
    go_enter Tryd.func7, Tryd.ntmps7
    go_wp2_with fail
    go_loopg [5] n (fun k i wr => ∃ j : Nat, j ≤ n ∧ k = n - j ∧ i = .int .i64 j ∧ Hid (xs.take j = ys.take j) ∧ Hid (Below w.heap.size w wr))
    case atStart => exact ⟨0, by omega, rfl, rfl, Lib.hid rfl, Lib.hid (Below.refl _ _)⟩
    case round =>
      obtain ⟨j, hj, hk, rfl, HT, HW⟩ := hrel
      have HK := Lib.hid hk
      clear hk
      by_cases hlt : j < n
      · have hx : j < xs.length := by rw [← HN.out]; exact hlt
        have hy : j < ys.length := by rw [← HM.out]; exact hlt
        have ex : xs[j]? = some xs[j] := List.getElem?_eq_getElem hx
        have ey : ys[j]? = some ys[j] := List.getElem?_eq_getElem hy
        obtain ⟨b1, o1, c1, e, _, _, p1, p2, p3⟩ := HA.out.get j hx
        obtain ⟨b2, o2, c2, e', _, _, q1, q2, q3⟩ := HB.out.get j hy
        injection e with e1 e2 e3
        injection e' with e1' e2' e3'
        subst e1 e3 e1' e3'
        clear e2 e2'
        replace p1 := (Below.chg HW.out).cell p1 (fun x => x)
        replace p2 := (Below.chg HW.out).cell p2 (fun x => x)
        replace p3 := (Below.chg HW.out).cell p3 (fun x => x)
        replace q1 := (Below.chg HW.out).cell q1 (fun x => x)
        replace q2 := (Below.chg HW.out).cell q2 (fun x => x)
        replace q3 := (Below.chg HW.out).cell q3 (fun x => x)
        have HX := Lib.hid (And.intro ex ey)
        clear ex ey
        generalize xs[j] = x at *
        generalize ys[j] = y at *
        obtain ⟨x1, x2, x3⟩ := x
        obtain ⟨y1, y2, y3⟩ := y
        simp only at p1 p2 p3 q1 q2 q3
        have hcs : (x1 = y1 ∧ x2 = y2 ∧ x3 = y3) ∨ (¬ x1 = y1) ∨ (x1 = y1 ∧ ¬ x2 = y2) ∨ (x1 = y1 ∧ x2 = y2 ∧ ¬ x3 = y3) := by
          by_cases e1 : x1 = y1
          · by_cases e2 : x2 = y2
            · by_cases e3 : x3 = y3
              · exact .inl ⟨e1, e2, e3⟩
              · exact .inr (.inr (.inr ⟨e1, e2, e3⟩))
            · exact .inr (.inr (.inl ⟨e1, e2⟩))
          · exact .inr (.inl e1)
        rcases hcs with ⟨rfl, rfl, rfl⟩ | hne | ⟨rfl, hne⟩ | ⟨rfl, rfl, hne⟩
        · go_wp2_with fail
          go_quiet (fail)
          go_wp2_with fail
          go_roundg (n - (j + 1))
          case measure => have := HK.out; omega
          case rel => exact ⟨j + 1, by omega, rfl, by go_num, Lib.hid (by
            obtain ⟨ex, ey⟩ := HX.out
            rw [List.take_add_one, List.take_add_one, HT.out, ex, ey]), Lib.hid (HW.out.trans (((Chg.refl (fun _ => False) _).drewN _).below (B := w.heap.size) (fun k h => h.elim) HW.out.size))⟩
        · have t1 : (x1 == y1) = false := by rw [beq_eq_false_iff_ne]; exact hne
          have t2 : (x1 != y1) = true := by rw [bne, t1]; rfl
          have t3 : decide (x1 = y1) = false := decide_eq_false hne
          have HNE := Lib.hid hne
          clear hne
          go_wp2_with fail
          go_quiet (fail)
          go_wp2_with fail
          go_ret
          refine ⟨?_, HW.out.trans (((Chg.refl (fun _ => False) _).drewN _).below (B := w.heap.size) (fun k h => h.elim) HW.out.size)⟩
          rw [decide_eq_false (fun e => by
            obtain ⟨ex, ey⟩ := HX.out
            rw [e, ey] at ex
            injection ex with ex
            injection ex with ex1 ex2 ex3
            exact HNE.out ex1.symm)]
          rfl
        · have t1 : (x2 == y2) = false := by rw [beq_eq_false_iff_ne]; exact hne
          have t2 : (x2 != y2) = true := by rw [bne, t1]; rfl
          have t3 : decide (x2 = y2) = false := decide_eq_false hne
          have HNE := Lib.hid hne
          clear hne
          go_wp2_with fail
          go_quiet (fail)
          go_wp2_with fail
          go_ret
          refine ⟨?_, HW.out.trans (((Chg.refl (fun _ => False) _).drewN _).below (B := w.heap.size) (fun k h => h.elim) HW.out.size)⟩
          rw [decide_eq_false (fun e => by
            obtain ⟨ex, ey⟩ := HX.out
            rw [e, ey] at ex
            injection ex with ex
            injection ex with ex1 ex2 ex3
            exact HNE.out ex2.symm)]
          rfl
        · have t1 : (x3 == y3) = false := by rw [beq_eq_false_iff_ne]; exact hne
          have t2 : (x3 != y3) = true := by rw [bne, t1]; rfl
          have t3 : decide (x3 = y3) = false := decide_eq_false hne
          have HNE := Lib.hid hne
          clear hne
          go_wp2_with fail
          go_quiet (fail)
          go_wp2_with fail
          go_ret
          refine ⟨?_, HW.out.trans (((Chg.refl (fun _ => False) _).drewN _).below (B := w.heap.size) (fun k h => h.elim) HW.out.size)⟩
          rw [decide_eq_false (fun e => by
            obtain ⟨ex, ey⟩ := HX.out
            rw [e, ey] at ex
            injection ex with ex
            injection ex with ex1 ex2 ex3
            exact HNE.out ex3.symm)]
          rfl
      · go_wp2_with fail
        go_ret
        refine ⟨?_, HW.out⟩
        have : j = xs.length := by rw [← HN.out]; omega
        have h := HT.out
        rw [this, List.take_length, ← HN.out, HM.out, List.take_length] at h
        rw [decide_eq_true h]
        rfl
  · go_enter Tryd.func7, Tryd.ntmps7
    go_wp2_with fail
    go_ret
    refine ⟨?_, Below.refl _ _⟩
    rw [decide_eq_false (fun e => hl (by rw [HN.out, HM.out, e]))]
    rfl
end Go.Proofs.YtpjpndndpcebcaaDoor
