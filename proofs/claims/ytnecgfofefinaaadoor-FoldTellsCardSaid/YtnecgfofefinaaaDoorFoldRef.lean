/- fold laws: ref, same. -/
import Derived.Test.YtnecgfofefinaaaDoorFoldRd
import Derived.Test.YtnecgfofefinaaaDoorLaid
import Derived.Test.YtnecgfofefinaaaDoorOrd
import Derived.Deep.AppendLies
import Derived.BigQuiet
namespace Go.Proofs.YtnecgfofefinaaaDoor
set_option linter.unusedVariables false
set_option linter.unusedSimpArgs false
open Go.RowKit

theorem insCells_snoc (l : List InsR) (x : InsR) : insCells (l ++ [x]) = insCells l ++ x.cells := by simp [insCells]
theorem infoRIns : (Tryd.prog.info? 36).map (fun i => (i.zero, i.size, i.bytes)) = some (some (.agg #[.int .i64 0, .int .i64 0, .int .i64 0]), 3, 24) := by kernel_rfl

set_option maxHeartbeats 4000000 in
set_option maxRecDepth 100000 in
theorem ref_any {w : World} {v : Value} {l : List InsR} (hs : Src w v l.length (insCells l)) (hm : l.length ≤ 1048576) :
    Calls Tryd.prog 12 #[v] w fun e w' => ∃ v', e = .returned v' ∧ w'.ownsRow 0 36 3 v' l.length (insCells l) ∧ (∀ k, v'.ownBlock = some k → w.heap.size ≤ k) ∧ Below w.heap.size w w' := by
  obtain ⟨_, A, c, rfl⟩ := hs.bound
  have HS := Lib.hid hs
  clear hs
  obtain ⟨n, hn⟩ : ∃ n, n = l.length := ⟨_, rfl⟩
  rw [← hn] at hm ⊢
  have HN := Lib.hid hn
  clear hn
  go_enter Tryd.func12, Tryd.ntmps12
  go_wp2_with fail
  go_loopg [3, 4] n (fun k V i wr => ∃ j : Nat, j ≤ n ∧ k = n - j ∧ i = .int .i64 j ∧ (∃ AV cV, V = .slice AV j cV) ∧ Hid (wr.ownsRow 0 36 3 V j (insCells (l.take j))) ∧ Hid (∀ k, V.ownBlock = some k → w.heap.size ≤ k) ∧ Hid (Below w.heap.size w wr))
  case atStart => exact ⟨0, by omega, rfl, rfl, ⟨_, _, rfl⟩, Lib.hid (World.ownsRow_nil _ _ _ _), Lib.hid (fun _ e => by cases e), Lib.hid (Below.refl _ _)⟩
  case round =>
    obtain ⟨j, hj, hk, rfl, ⟨AV, cV, rfl⟩, HO, HOB, HW⟩ := hrel
    have HK := Lib.hid hk
    clear hk
    by_cases hlt : j < n
    · obtain ⟨b, off, cap, hA, hbs, hcap, c0, c1, c2⟩ := HS.out.get j (by have := HN.out; omega)
      have hA : Value.slice A l.length c = .slice (some ⟨b, off, none⟩) l.length cap := hA
      injection hA with hA1 _ hA3
      subst hA1 hA3
      obtain ⟨op, hop⟩ : ∃ op, op = (l[j]'(by have := HN.out; omega)).op := ⟨_, rfl⟩
      obtain ⟨a, ha⟩ : ∃ a, a = (l[j]'(by have := HN.out; omega)).a := ⟨_, rfl⟩
      obtain ⟨nn, hnn⟩ : ∃ nn, nn = (l[j]'(by have := HN.out; omega)).n := ⟨_, rfl⟩
      rw [← hop] at c0
      rw [← ha] at c1
      rw [← hnn] at c2
      have HTK : Hid (l.take (j + 1) = l.take j ++ [⟨op, a, nn⟩]) := Lib.hid (by rw [List.take_succ_eq_append_getElem (by have := HN.out; omega), hop, ha, hnn])
      clear hop ha hnn
      have SCX : Hid (∀ w', Below w.heap.size w w' → w'.cell? ⟨b, off + j * 3, none⟩ = some (.int .i64 op) ∧ w'.cell? ⟨b, off + j * 3 + 1, none⟩ = some (.int .i64 a) ∧ w'.cell? ⟨b, off + j * 3 + 2, none⟩ = some (.int .i64 nn)) := Lib.hid (fun w' hb => ⟨(Below.chg hb).cell c0 (fun x => x), (Below.chg hb).cell c1 (fun x => x), (Below.chg hb).cell c2 (fun x => x)⟩)
      clear c0 c1 c2
      go_upto_region 5 with fail
      obtain ⟨i0, hi, hz0, hz1, hz2⟩ := info_parts infoRIns
      obtain ⟨wd, hwd⟩ : ∃ wd, wd = wr.drew := ⟨_, rfl⟩
      have hb : Below w.heap.size w wd := by rw [hwd]; exact HW.out.drew
      have hcd : Chg (fun _ => False) wr wd := by rw [hwd]; exact (Chg.refl _ _).drewN 1
      have hS := SCX.out wd hb
      refine wp_region_ord (S := fun w' => w'.cell? ⟨b, off + j * 3, none⟩ = some (.int .i64 op) ∧ w'.cell? ⟨b, off + j * 3 + 1, none⟩ = some (.int .i64 a) ∧ w'.cell? ⟨b, off + j * 3 + 2, none⟩ = some (.int .i64 nn)) (N := fun i => true) (by kernel_rfl) [(0, true), (1, true), (2, true), (3, true), (4, true), (5, true), (6, true), (7, true), (8, true), (9, true), (10, true), (11, true), (12, true), (13, true), (14, true), (15, true), (16, true), (17, false), (18, false), (19, true)] (by kernel_rfl) ?_
      rw [← hwd]
      clear hwd
      iterate 17 (refine ord_look rfl hS rfl (by intro w hS; obtain ⟨p0, p1, p2⟩ := hS; go_simp; with_reducible rfl) (fun c a w h => h) ?_; simp only [Act.put, List.setIfInBounds_toArray, List.set_cons_succ, List.set_cons_zero])
      refine ord_act rfl rfl (fun K hK => ?_)
      go_simp
      obtain ⟨wx, hwx⟩ : ∃ wx, wx = wd.alloc (.cells #[.int .i64 op, .int .i64 a, .int .i64 nn] 36) := ⟨_, rfl⟩
      obtain ⟨g, hg⟩ : ∃ g, g = wd.heap.size := ⟨_, rfl⟩
      rw [← hwx, ← hg]
      have hbx : Below w.heap.size w wx := by rw [hwx]; exact hb.alloc hb.size _
      have hgx : wx.heap[g]? = some (.cells #[.int .i64 op, .int .i64 a, .int .i64 nn] 36 (0, 0)) := by rw [hwx]; exact heap_new' hg.symm
      have hcx : Chg (fun _ => False) wr wx := by rw [hwx]; exact hcd.alloc _
      replace hS := SCX.out wx hbx
      refine hK _ _ ⟨fun _ => hS, ?_⟩
      clear hK K hwx hg
      try simp only [Act.put, List.setIfInBounds_toArray, List.set_cons_succ, List.set_cons_zero]
      have hrowx := ownsRow_kept HO.out hcx (fun _ _ x => x)
      have hnews := World.news_of_block hgx
      refine ord_act rfl rfl (fun K hK => ?_)
      refine wp_append_lies _ (.tmp 11) (.tmp 28) 26 rfl 0 36 i0 _ 3 24 Tryd.underlying26 hi hz0 hz1 hz2 rfl (by omega) (.slice AV j cV) j (insCells (l.take j)) rfl hrowx ⟨g, 0, none⟩ 1 1 [.int .i64 op, .int .i64 a, .int .i64 nn] rfl rfl hnews (by simp [Value.oneCell']) (by omega) (by unfold maxLen; omega) (by omega) (by omega) wx.heap.size rfl ?_
      intro g2 cap2 w2 hown2 hgrow2 hat2 hlt2
      have HW2 : Hid (Below w.heap.size w w2) := Lib.hid (hbx.trans ((Chg.of_grown hgrow2).below (B := w.heap.size) (fun k hk => HOB.out k hk) hbx.size))
      have hS2 := SCX.out w2 HW2.out
      have HO2 : Hid (w2.ownsRow 0 36 3 (.slice (some ⟨g2, 0, none⟩) (j + 1) cap2) (j + 1) (insCells (l.take (j + 1)))) := Lib.hid (by rw [HTK.out, insCells_snoc]; exact hown2)
      have HOB2 : Hid (∀ k, (Value.slice (some ⟨g2, 0, none⟩) (j + 1) cap2).ownBlock = some k → w.heap.size ≤ k) := Lib.hid (fun k hk => by
        obtain rfl : g2 = k := by injection hk
        rcases hat2 with h | h
        · exact HOB.out _ h
        · have := hbx.size; omega)
      refine hK _ _ ⟨fun _ => hS2, ?_⟩
      clear hK K hS hown2 hgrow2 hat2 hrowx hnews
      try simp only [Act.put, List.setIfInBounds_toArray, List.set_cons_succ, List.set_cons_zero]
      refine ord_look rfl hS2 rfl (by intro w hS; obtain ⟨p0, p1, p2⟩ := hS; go_simp; with_reducible rfl) (fun c a w h => h) ?_; simp only [Act.put, List.setIfInBounds_toArray, List.set_cons_succ, List.set_cons_zero]
      refine ord_end ?_
      go_wp2_with fail
      go_roundg (n - (j + 1))
      case measure => have := HK.out; omega
      case rel => exact ⟨j + 1, by omega, rfl, by go_num, ⟨_, _, rfl⟩, HO2, HOB2, HW2⟩
    · go_wp2_with fail
      have hjn : j = n := by omega
      have HR : Hid (wr.ownsRow 0 36 3 (.slice AV j cV) n (insCells l)) := Lib.hid (by
        have h := HO.out
        rw [hjn, HN.out, List.take_length] at h
        rw [hjn, HN.out]; exact h)
      go_ret
      exact ⟨_, rfl, HR.out, HOB.out, HW.out⟩

set_option maxHeartbeats 4000000 in
set_option maxRecDepth 100000 in
theorem same_any {w : World} {v1 v2 : Value} {xs ys : List InsR} (h1 : Src w v1 xs.length (insCells xs)) (h2 : Src w v2 ys.length (insCells ys)) (hm1 : xs.length ≤ 1048576) (hm2 : ys.length ≤ 1048576) :
    Calls Tryd.prog 9 #[v1, v2] w fun e w' => e = .returned (.bool (decide (xs = ys))) ∧ Below w.heap.size w w' := by
  obtain ⟨_, A, c, rfl⟩ := h1.bound
  obtain ⟨_, B, d, rfl⟩ := h2.bound
  have HA := Lib.hid h1
  have HB := Lib.hid h2
  clear h1 h2
  obtain ⟨n, hn⟩ : ∃ n, n = xs.length := ⟨_, rfl⟩
  obtain ⟨m, hm⟩ : ∃ m, m = ys.length := ⟨_, rfl⟩
  rw [← hn] at hm1 ⊢
  rw [← hm] at hm2 ⊢
  have HN := Lib.hid hn
  have HM := Lib.hid hm
  clear hn hm
  by_cases hl : n = m
  · subst hl
    go_enter Tryd.func9, Tryd.ntmps9
    go_wp2_with fail
    go_loopg [5] n (fun k i wr => ∃ j : Nat, j ≤ n ∧ k = n - j ∧ i = .int .i64 j ∧ Hid (xs.take j = ys.take j) ∧ Hid (Below w.heap.size w wr))
    case atStart => exact ⟨0, by omega, rfl, rfl, Lib.hid rfl, Lib.hid (Below.refl _ _)⟩
    case round =>
      obtain ⟨j, hj, hk, rfl, HT, HW⟩ := hrel
      have HK := Lib.hid hk
      clear hk
      by_cases hlt : j < n
      · have hx : j < xs.length := by rw [← HN.out]; exact hlt
        have hy : j < ys.length := by rw [← HM.out]; exact hlt
        have ex : xs[j]? = some xs[j] := List.getElem?_eq_getElem hx
        have ey : ys[j]? = some ys[j] := List.getElem?_eq_getElem hy
        obtain ⟨b1, o1, c1, e, _, _, p1, p2, p3⟩ := HA.out.get j hx
        obtain ⟨b2, o2, c2, e', _, _, q1, q2, q3⟩ := HB.out.get j hy
        injection e with e1 e2 e3
        injection e' with e1' e2' e3'
        subst e1 e3 e1' e3'
        clear e2 e2'
        replace p1 := (Below.chg HW.out).cell p1 (fun x => x)
        replace p2 := (Below.chg HW.out).cell p2 (fun x => x)
        replace p3 := (Below.chg HW.out).cell p3 (fun x => x)
        replace q1 := (Below.chg HW.out).cell q1 (fun x => x)
        replace q2 := (Below.chg HW.out).cell q2 (fun x => x)
        replace q3 := (Below.chg HW.out).cell q3 (fun x => x)
        have HX := Lib.hid (And.intro ex ey)
        clear ex ey
        generalize xs[j] = x at *
        generalize ys[j] = y at *
        obtain ⟨x1, x2, x3⟩ := x
        obtain ⟨y1, y2, y3⟩ := y
        simp only at p1 p2 p3 q1 q2 q3
        have hcs : (x1 = y1 ∧ x2 = y2 ∧ x3 = y3) ∨ (¬ x1 = y1) ∨ (x1 = y1 ∧ ¬ x2 = y2) ∨ (x1 = y1 ∧ x2 = y2 ∧ ¬ x3 = y3) := by
          by_cases e1 : x1 = y1
          · by_cases e2 : x2 = y2
            · by_cases e3 : x3 = y3
              · exact .inl ⟨e1, e2, e3⟩
              · exact .inr (.inr (.inr ⟨e1, e2, e3⟩))
            · exact .inr (.inr (.inl ⟨e1, e2⟩))
          · exact .inr (.inl e1)
        rcases hcs with ⟨rfl, rfl, rfl⟩ | hne | ⟨rfl, hne⟩ | ⟨rfl, rfl, hne⟩
        · go_wp2_with fail
          go_quiet (fail)
          go_wp2_with fail
          go_roundg (n - (j + 1))
          case measure => have := HK.out; omega
          case rel => exact ⟨j + 1, by omega, rfl, by go_num, Lib.hid (by
            obtain ⟨ex, ey⟩ := HX.out
            rw [List.take_add_one, List.take_add_one, HT.out, ex, ey]), Lib.hid (HW.out.trans (((Chg.refl (fun _ => False) _).drewN _).below (B := w.heap.size) (fun k h => h.elim) HW.out.size))⟩
        · have t1 : (x1 == y1) = false := by rw [beq_eq_false_iff_ne]; exact hne
          have t2 : (x1 != y1) = true := by rw [bne, t1]; rfl
          have t3 : decide (x1 = y1) = false := decide_eq_false hne
          have HNE := Lib.hid hne
          clear hne
          go_wp2_with fail
          go_quiet (fail)
          go_wp2_with fail
          go_ret
          refine ⟨?_, HW.out.trans (((Chg.refl (fun _ => False) _).drewN _).below (B := w.heap.size) (fun k h => h.elim) HW.out.size)⟩
          rw [decide_eq_false (fun e => by
            obtain ⟨ex, ey⟩ := HX.out
            rw [e, ey] at ex
            injection ex with ex
            injection ex with ex1 ex2 ex3
            exact HNE.out ex1.symm)]
          rfl
        · have t1 : (x2 == y2) = false := by rw [beq_eq_false_iff_ne]; exact hne
          have t2 : (x2 != y2) = true := by rw [bne, t1]; rfl
          have t3 : decide (x2 = y2) = false := decide_eq_false hne
          have HNE := Lib.hid hne
          clear hne
          go_wp2_with fail
          go_quiet (fail)
          go_wp2_with fail
          go_ret
          refine ⟨?_, HW.out.trans (((Chg.refl (fun _ => False) _).drewN _).below (B := w.heap.size) (fun k h => h.elim) HW.out.size)⟩
          rw [decide_eq_false (fun e => by
            obtain ⟨ex, ey⟩ := HX.out
            rw [e, ey] at ex
            injection ex with ex
            injection ex with ex1 ex2 ex3
            exact HNE.out ex2.symm)]
          rfl
        · have t1 : (x3 == y3) = false := by rw [beq_eq_false_iff_ne]; exact hne
          have t2 : (x3 != y3) = true := by rw [bne, t1]; rfl
          have t3 : decide (x3 = y3) = false := decide_eq_false hne
          have HNE := Lib.hid hne
          clear hne
          go_wp2_with fail
          go_quiet (fail)
          go_wp2_with fail
          go_ret
          refine ⟨?_, HW.out.trans (((Chg.refl (fun _ => False) _).drewN _).below (B := w.heap.size) (fun k h => h.elim) HW.out.size)⟩
          rw [decide_eq_false (fun e => by
            obtain ⟨ex, ey⟩ := HX.out
            rw [e, ey] at ex
            injection ex with ex
            injection ex with ex1 ex2 ex3
            exact HNE.out ex3.symm)]
          rfl
      · go_wp2_with fail
        go_ret
        refine ⟨?_, HW.out⟩
        have : j = xs.length := by rw [← HN.out]; omega
        have h := HT.out
        rw [this, List.take_length, ← HN.out, HM.out, List.take_length] at h
        rw [decide_eq_true h]
        rfl
  · go_enter Tryd.func9, Tryd.ntmps9
    go_wp2_with fail
    go_ret
    refine ⟨?_, Below.refl _ _⟩
    rw [decide_eq_false (fun e => hl (by rw [HN.out, HM.out, e]))]
    rfl
end Go.Proofs.YtnecgfofefinaaaDoor
