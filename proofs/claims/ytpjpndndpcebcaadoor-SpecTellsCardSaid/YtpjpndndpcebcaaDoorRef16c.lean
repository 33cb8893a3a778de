/- evenhandref16: once. -/
import Derived.Test.YtpjpndndpcebcaaDoorRef16b
import Derived.Test.YtpjpndndpcebcaaDoorRef01c
namespace Go.Proofs.YtpjpndndpcebcaaDoor
set_option linter.unusedVariables false
set_option linter.unusedSimpArgs false
open Go.RowKit

theorem in_wrap (x : Int) : In64 (wrap64 x) := by unfold In64 wrap64; omega
theorem doV_in (op a b : Int) (h1 : In64 a) : In64 (doV op a b).1 := by
  have h0 : In64 0 := by unfold In64; omega
  have h1' : In64 1 := by unfold In64; omega
  unfold doV
  split
  · exact in_wrap _
  · split
    · show In64 (if a = 0 then 1 else 0); split; exact h1'; exact h0
    · split
      · exact in_wrap _
      · split
        · exact in_wrap _
        · split
          · exact in_wrap _
          · split
            · split
              · exact h0
              · exact in_wrap _
            · split
              · split
                · exact h0
                · show In64 (a.tmod b); rw [tmod_abs h1 (by assumption)]; exact in_wrap _
              · split
                · show In64 (if a < b then 1 else 0); split; exact h1'; exact h0
                · split
                  · show In64 (if a = b then 1 else 0); split; exact h1'; exact h0
                  · split
                    · show In64 (bits .and .i64 a b); unfold bits; simp only []; rw [i64_wrap]; exact in_wrap _
                    · split
                      · show In64 (bits .or .i64 a b); unfold bits; simp only []; rw [i64_wrap]; exact in_wrap _
                      · exact h0
theorem replv_full {l bs : List InsR} {i many : Nat} (h1 : bs.length ≤ 1) (h2 : bs.length ≤ many) (hl : ∀ x ∈ l, Full x) (hb : ∀ x ∈ bs, Full x) : ∀ x ∈ replv l i many bs, Full x := fun x hx => by
  unfold replv at hx
  obtain ⟨y, hy, rfl⟩ := List.mem_map.1 hx
  have hf : Full y := by
    simp only [repl, List.mem_append] at hy
    rcases hy with (hy | hy) | hy
    · exact hl y (List.mem_of_mem_take hy)
    · exact hb y hy
    · exact hl y (List.mem_of_mem_drop hy)
  have hw : WfI (fixA i many bs.length y) := fixA_wf hf.wf (by omega) (by omega) (by omega) (by omega)
  refine ⟨?_, hw.a, ?_⟩
  · unfold fixA; split; exact hf.op; exact hf.op
  · unfold fixA; split; exact hf.n; exact hf.n
theorem push_full {n : Int} (h : In64 n) : ∀ x ∈ [pushR n], Full x := fun x hx => by rw [List.mem_singleton.1 hx]; exact ⟨by show In64 1; unfold In64; omega, by show In64 0; unfold In64; omega, h⟩
theorem ruleV_full {l l' : List InsR} {i : Nat} (h : ruleV l i = some l') (hl : ∀ x ∈ l, Full x) : ∀ x ∈ l', Full x := by
  unfold ruleV at h
  cases e : l[i]? with
  | none => rw [e] at h; cases h
  | some x =>
    have hx := hl x (List.mem_of_getElem? e)
    rw [e] at h
    simp only [] at h
    split at h
    · injection h with h; subst h; exact replv_full (by simp) (by simp) hl (by simp)
    · split at h
      · cases e2 : l[i + 1]? with
        | none => rw [e2] at h; cases h
        | some y =>
          have hy := hl y (List.mem_of_getElem? e2)
          rw [e2] at h
          simp only [] at h
          unfold behindV at h
          split at h
          · injection h with h; subst h; exact replv_full (by simp) (by simp) hl (push_full (doV_in _ _ _ hx.n))
          · split at h
            · injection h with h; subst h
              exact replv_full (by simp) (by simp) hl (fun z hz => by rw [List.mem_singleton.1 hz]; exact ⟨by show In64 15; unfold In64; omega, hy.a, by show In64 0; unfold In64; omega⟩)
            · split at h
              · injection h with h; subst h; exact replv_full (by simp) (by simp) hl (by simp)
              · split at h
                · cases h
                · cases e3 : l[i + 2]? with
                  | none => rw [e3] at h; cases h
                  | some z =>
                    rw [e3] at h
                    simp only [] at h
                    split at h
                    · cases h
                    · split at h
                      · injection h with h; subst h; exact replv_full (by simp) (by simp) hl (push_full (doV_in _ _ _ hx.n))
                      · cases h
      · cases h
theorem rdo_any (op a b : Int) (hop : 6 ≤ op ∧ op ≤ 16) (h1 : In64 a) (h2 : In64 b) (w : World) : Calls Tryd.prog 27 #[.int .i64 op, .int .i64 a, .int .i64 b] w fun e w' => e = .returned (.tuple #[.int .i64 (doV op a b).1, .bool (doV op a b).2]) ∧ w' = w := by
  have : op = 6 ∨ op = 7 ∨ op = 8 ∨ op = 9 ∨ op = 10 ∨ op = 11 ∨ op = 12 ∨ op = 13 ∨ op = 14 ∨ op = 15 ∨ op = 16 := by omega
  rcases this with rfl | rfl | rfl | rfl | rfl | rfl | rfl | rfl | rfl | rfl | rfl
  · exact rdo6_any a b h1 h2 w
  · exact rdo7_any a b h1 h2 w
  · exact rdo8_any a b h1 h2 w
  · exact rdo9_any a b h1 h2 w
  · exact rdo10_any a b h1 h2 w
  · exact rdo11_any a b h1 h2 w
  · exact rdo12_any a b h1 h2 w
  · exact rdo13_any a b h1 h2 w
  · exact rdo14_any a b h1 h2 w
  · exact rdo15_any a b h1 h2 w
  · exact rdo16_any a b h1 h2 w

/-- what one round of folding tells -/
def OnceP (w : World) (v : Value) (l : List InsR) (e : Ending) (w' : World) : Prop :=
  (∃ l', firstRule l = some l' ∧ ∃ v', e = .returned (.tuple #[v', .bool true]) ∧ w'.ownsRow 0 41 3 v' l'.length (insCells l') ∧ Below w.heap.size w w') ∨ (firstRule l = none ∧ e = .returned (.tuple #[v, .bool false]) ∧ Below w.heap.size w w')
theorem OnceP.hit {w w1 w' : World} {v v' : Value} {l l' : List InsR} {j : Nat} (hj : j < l.length) (hb : Below w.heap.size w w1) (h : ruleV l j = some l') (hn : ∀ i, i < j → ruleV l i = none) (ho : w'.ownsRow 0 41 3 v' l'.length (insCells l')) (hb2 : Below w1.heap.size w1 w') : OnceP w v l (.returned (.tuple #[v', .bool true])) w' :=
  .inl ⟨l', firstRule_at hj h hn, v', rfl, ho, bel_trans hb hb2⟩

set_option maxHeartbeats 4000000 in
set_option maxRecDepth 100000 in
theorem once_any {w : World} {v : Value} {l : List InsR} (hs : Src w v l.length (insCells l)) (hl : l.length ≤ 1048576) (hf : ∀ x ∈ l, Full x) :
    Calls Tryd.prog 17 #[v] w fun e w' => OnceP w v l e w' := by
  obtain ⟨_, A, c, rfl⟩ := hs.bound
  have HS := Lib.hid hs
  have HF := Lib.hid hf
  have HWF : Hid (∀ x ∈ l, WfI x) := Lib.hid (fun x hx => (hf x hx).wf)
  clear hs hf
  obtain ⟨n, hn⟩ : ∃ n, n = l.length := ⟨_, rfl⟩
  rw [← hn] at hl ⊢
  have HN := Lib.hid hn
  clear hn
  have CT : Hid (∀ w' (k : Int), Below w.heap.size w w' → Calls Tryd.prog 26 #[.slice A n c, .int .i64 k] w' fun e w'' => e = .returned (.bool (l.any (hitv k))) ∧ Below w'.heap.size w' w'') := Lib.hid (fun w' k hb => by
    have h := target_any (HS.out.kept (Below.chg hb) (.inr fun _ _ x => x)) (by have := HN.out; omega) k
    rw [← HN.out] at h
    exact h)
  have CR : Hid (∀ w' u (bs : List InsR) (i many : Nat), Below w.heap.size w w' → Src w' u bs.length (insCells bs) → bs.length ≤ 1 → 1 ≤ many → many ≤ 3 → i + many ≤ n → (∀ x ∈ bs, WfI x) → Calls Tryd.prog 25 #[.slice A n c, .int .i64 i, .int .i64 many, u] w' fun e w'' => ∃ v', e = .returned v' ∧ w''.ownsRow 0 41 3 v' (replv l i many bs).length (insCells (replv l i many bs)) ∧ Below w'.heap.size w' w'') := Lib.hid (fun w' u bs i many hb hu h1 h2 h3 h4 h5 => by
    have h := replaced_any (v := .slice A l.length c) i many (HS.out.kept (Below.chg hb) (.inr fun _ _ x => x)) (by have := HN.out; omega) h2 h3 (by have := HN.out; omega) h1 hu HWF.out h5
    rw [← HN.out] at h
    refine h.mono ?_
    rintro e w'' ⟨v', he, ho, _, hb'⟩
    exact ⟨v', he, ho, hb'⟩)
  go_enter Tryd.func17, Tryd.ntmps17
  go_wp2_with fail
  go_loopg [4] n (fun kk i wr => ∃ j : Nat, j ≤ n ∧ kk = n - j ∧ i = .int .i64 j ∧ Hid (∀ i, i < j → ruleV l i = none) ∧ Hid (Below w.heap.size w wr))
  case atStart => exact ⟨0, by omega, rfl, rfl, Lib.hid (fun i hi => by omega), Lib.hid (Below.refl _ _)⟩
  case round =>
    obtain ⟨j, hj, hk, rfl, HT, HW⟩ := hrel
    have HK := Lib.hid hk
    clear hk
    by_cases hlt : j < n
    · have hjl : j < l.length := by have := HN.out; omega
      obtain ⟨b, off, cap, hA, hbs, hcap, c0, c1, c2⟩ := HS.out.get j hjl
      have hA : Value.slice A l.length c = .slice (some ⟨b, off, none⟩) l.length cap := hA
      injection hA with hA1 _ hA3
      subst hA1 hA3
      replace c0 := (Below.chg HW.out).cell c0 (fun x => x)
      replace c1 := (Below.chg HW.out).cell c1 (fun x => x)
      replace c2 := (Below.chg HW.out).cell c2 (fun x => x)
      obtain ⟨x, hx⟩ : ∃ x, x = l[j] := ⟨_, rfl⟩
      have HXF : Hid (Full x) := Lib.hid (HF.out x (by rw [hx]; exact List.getElem_mem _))
      have HXE : Hid (l[j]? = some x) := Lib.hid (by rw [hx]; exact List.getElem?_eq_getElem hjl)
      rw [← hx] at c0 c1 c2
      clear hx hjl
      obtain ⟨op, a, nn⟩ := x
      simp only at c0 c1 c2
      have hjb : (j : Int) + 1 ≤ 1048577 := by omega
      -- the next place
      have HNEXT : Hid (ruleV l j = none → ∀ i, i < j + 1 → ruleV l i = none) := Lib.hid (fun h i hi => by
        rcases Nat.lt_succ_iff_lt_or_eq.1 hi with h1 | h1
        · exact HT.out i h1
        · rw [h1]; exact h)
      obtain ⟨wx, hwx⟩ : ∃ wx, wx = wr.alloc (.cells #[.int .i64 op, .int .i64 a, .int .i64 nn] 41) := ⟨_, rfl⟩
      have HWX : Hid (Below w.heap.size w wx) := Lib.hid (by rw [hwx]; exact HW.out.alloc HW.out.size _)
      obtain ⟨F, hF⟩ : ∃ F, F = wr.heap.size := ⟨_, rfl⟩
      have HBX : Hid (wx.heap[F]? = some (.cells #[.int .i64 op, .int .i64 a, .int .i64 nn] 41 (0, 0))) := Lib.hid (by rw [hwx]; exact heap_new' hF.symm)
      have HWE := Lib.hid (And.intro hwx hF)
      clear hwx hF
      by_cases hA : op = 15 ∧ a = (j : Int) + 1
      · have q1 : (op == 15) = true := by rw [hA.1]; rfl
        have q2 : (a == (j : Int) + 1) = true := by rw [hA.2]; simp
        have HRU : Hid (ruleV l j = some (replv l j 1 [])) := Lib.hid (by unfold ruleV; rw [HXE.out]; simp only []; rw [if_pos hA])
        clear hA
        have C1 := Lib.hid (CR.out wx (.slice none 0 0) [] j 1 HWX.out (src_none wx) (by simp) (by omega) (by omega) (by omega) (by simp))
        go_wp2_with fail
        rw [← HWE.out.1]
        refine C1.out.mono ?_; rintro e w1 ⟨v1, rfl, ho1, hb1⟩
        have HO1 := Lib.hid (And.intro ho1 hb1)
        clear ho1 hb1
        go_wp2_with fail
        go_ret2
        exact OnceP.hit (by have := HN.out; omega) HWX.out HRU.out HT.out HO1.out.1 HO1.out.2
      · by_cases hop1 : op = 1
        · subst hop1
          by_cases hj1 : j + 1 < n
          · have q1 : (j : Int) + 1 < (n : Int) := by omega
            have q1' : decide ((n : Int) ≤ (j : Int) + 1) = false := decide_eq_false (by omega)
            obtain ⟨r1, hr1⟩ : ∃ r1, r1 = l.any (hitv ((j : Int) + 1)) := ⟨_, rfl⟩
            have C1 := Lib.hid (CT.out wx ((j : Int) + 1) HWX.out)
            rw [← hr1] at C1
            have HR1 := Lib.hid hr1
            have HNA := Lib.hid hA
            clear hr1 hA
            have HFR : Hid (freev l ((j : Int) + 1) = !r1) := Lib.hid (by unfold freev; rw [decide_eq_true (by have := HN.out; omega), ← HR1.out]; simp)
            have HRU0 : Hid ((r1 = true → ruleV l j = none) ∧ (r1 = false → ∀ y, l[j + 1]? = some y → ruleV l j = behindV l j ⟨1, a, nn⟩ y)) := Lib.hid ⟨fun h => by
              unfold ruleV
              rw [HXE.out]
              simp only []
              rw [if_neg (fun h => HNA.out h), if_neg (by rw [HFR.out, h]; simp)], fun h y hy => by
              unfold ruleV
              rw [HXE.out]
              simp only []
              rw [if_neg (fun h => HNA.out h), if_pos ⟨by first | rfl | trivial, by rw [HFR.out, h]; rfl⟩, hy]⟩
            go_wp2_with fail
            rw [← HWE.out.1]
            refine C1.out.mono ?_; rintro e w1 ⟨rfl, hb1⟩
            have HW1 := Lib.hid (bel_trans HWX.out hb1)
            have HB1 : Hid (w1.heap[F]? = some (.cells #[.int .i64 1, .int .i64 a, .int .i64 nn] 41 (0, 0))) := Lib.hid ((Below.chg hb1).heap HBX.out (fun x => x))
            clear hb1 C1
            rw [← HWE.out.2]
            clear HWE c0 c1 c2
            cases r1 with
            | true =>
              have HRN : Hid (ruleV l j = none) := Lib.hid (HRU0.out.1 rfl)
              go_wp2_with fail
              go_roundg (n - (j + 1))
              case measure => have := HK.out; omega
              case rel => exact ⟨j + 1, by omega, rfl, by go_num, Lib.hid (HNEXT.out HRN.out), HW1⟩
            | false =>
              have hj1l : j + 1 < l.length := by have := HN.out; omega
              obtain ⟨b', off', cap', hA', _, _, d0, d1, d2⟩ := HS.out.get (j + 1) hj1l
              injection hA' with hA1 _ hA3
              injection hA1 with hA1
              injection hA1 with hA1 hA1b
              subst hA1 hA1b hA3
              replace d0 := (Below.chg HW1.out).cell d0 (fun x => x)
              replace d1 := (Below.chg HW1.out).cell d1 (fun x => x)
              replace d2 := (Below.chg HW1.out).cell d2 (fun x => x)
              obtain ⟨y, hy⟩ : ∃ y, y = l[j + 1] := ⟨_, rfl⟩
              have HYF : Hid (Full y) := Lib.hid (HF.out y (by rw [hy]; exact List.getElem_mem _))
              have HYE : Hid (l[j + 1]? = some y) := Lib.hid (by rw [hy]; exact List.getElem?_eq_getElem hj1l)
              rw [← hy] at d0 d1 d2
              clear hy hj1l
              obtain ⟨oy, ay, ny⟩ := y
              simp only at d0 d1 d2
              have HRU1 : Hid (ruleV l j = behindV l j ⟨1, a, nn⟩ ⟨oy, ay, ny⟩) := Lib.hid (HRU0.out.2 rfl _ HYE.out)
              clear HRU0
              have x0 := cell_of_block HB1.out 0
              have x1 := cell_of_block HB1.out 1
              have x2 := cell_of_block HB1.out 2
              simp at x0 x1 x2
              obtain ⟨wy, hwy⟩ : ∃ wy, wy = w1.alloc (.cells #[.int .i64 oy, .int .i64 ay, .int .i64 ny] 41) := ⟨_, rfl⟩
              have HWY : Hid (Below w.heap.size w wy) := Lib.hid (by rw [hwy]; exact HW1.out.alloc HW1.out.size _)
              obtain ⟨G, hG⟩ : ∃ G, G = w1.heap.size := ⟨_, rfl⟩
              have HBY : Hid (wy.heap[G]? = some (.cells #[.int .i64 oy, .int .i64 ay, .int .i64 ny] 41 (0, 0))) := Lib.hid (by rw [hwy]; exact heap_new' hG.symm)
              have HBXY : Hid (wy.heap[F]? = some (.cells #[.int .i64 1, .int .i64 a, .int .i64 nn] 41 (0, 0))) := Lib.hid (by rw [hwy]; exact ((Chg.refl (fun _ => False) w1).alloc _).heap HB1.out (fun x => x))
              have z0 := cell_of_block HBXY.out 0
              have z1 := cell_of_block HBXY.out 1
              have z2 := cell_of_block HBXY.out 2
              simp at z0 z1 z2
              rw [hwy] at z0 z1 z2
              have HWE2 := Lib.hid (And.intro hwy hG)
              clear hwy hG
              by_cases hy4 : oy = 4
              · subst hy4
                obtain ⟨rv, hrv⟩ : ∃ rv, rv = (doV 6 nn 0).1 := ⟨_, rfl⟩
                obtain ⟨bv, hbv⟩ : ∃ bv, bv = (doV 6 nn 0).2 := ⟨_, rfl⟩
                have CD := Lib.hid (rdo_any 6 nn 0 (by omega) HXF.out.n (by unfold In64; omega) wy)
                rw [← hrv, ← hbv] at CD
                have HRU : Hid (ruleV l j = some (replv l j 2 [pushR rv])) := Lib.hid (by rw [HRU1.out, hrv]; unfold behindV; rw [if_pos (by simp)]; rfl)
                obtain ⟨wz, hwz⟩ : ∃ wz, wz = wy.alloc (.cells #[.int .i64 1, .int .i64 0, .int .i64 rv] 41) := ⟨_, rfl⟩
                have HWZ : Hid (Below w.heap.size w wz) := Lib.hid (by rw [hwz]; exact HWY.out.alloc HWY.out.size _)
                have CC := Lib.hid (CR.out wz (.slice (some ⟨wy.heap.size, 0, none⟩) 1 1) [pushR rv] j 2 HWZ.out (.inr ⟨wy.heap.size, 0, 1, rfl, by rw [hwz]; simp, Nat.le_refl _, by simp [maxLen], fun i u hu => by rw [Nat.zero_add, hwz, cell_of_block (heap_new _ _)]; simpa [insCells, InsR.cells, pushR] using hu⟩) (by simp) (by omega) (by omega) (by omega) (fun x hx => (push_full (by rw [hrv]; exact doV_in _ _ _ HXF.out.n) x hx).wf))
                have HWZE := Lib.hid hwz
                clear hwz hrv hbv
                go_wp2_with fail
                rw [← HWE2.out.1]
                refine CD.out.mono ?_; rintro e w8 ⟨rfl, hw⟩
                rw [hw]
                clear hw
                go_wp2_with fail
                rw [← HWZE.out]
                refine CC.out.mono ?_; rintro e w9 ⟨v9, rfl, ho9, hb9⟩
                have HO9 := Lib.hid (And.intro ho9 hb9)
                clear ho9 hb9
                go_wp2_with fail
                go_ret2
                exact OnceP.hit (by have := HN.out; omega) HWZ.out HRU.out HT.out HO9.out.1 HO9.out.2
              · by_cases hy5 : oy = 5
                · subst hy5
                  obtain ⟨rv, hrv⟩ : ∃ rv, rv = (doV 7 nn 0).1 := ⟨_, rfl⟩
                  obtain ⟨bv, hbv⟩ : ∃ bv, bv = (doV 7 nn 0).2 := ⟨_, rfl⟩
                  have CD := Lib.hid (rdo_any 7 nn 0 (by omega) HXF.out.n (by unfold In64; omega) wy)
                  rw [← hrv, ← hbv] at CD
                  have HRU : Hid (ruleV l j = some (replv l j 2 [pushR rv])) := Lib.hid (by rw [HRU1.out, hrv]; unfold behindV; rw [if_pos (by simp)]; rfl)
                  obtain ⟨wz, hwz⟩ : ∃ wz, wz = wy.alloc (.cells #[.int .i64 1, .int .i64 0, .int .i64 rv] 41) := ⟨_, rfl⟩
                  have HWZ : Hid (Below w.heap.size w wz) := Lib.hid (by rw [hwz]; exact HWY.out.alloc HWY.out.size _)
                  have CC := Lib.hid (CR.out wz (.slice (some ⟨wy.heap.size, 0, none⟩) 1 1) [pushR rv] j 2 HWZ.out (.inr ⟨wy.heap.size, 0, 1, rfl, by rw [hwz]; simp, Nat.le_refl _, by simp [maxLen], fun i u hu => by rw [Nat.zero_add, hwz, cell_of_block (heap_new _ _)]; simpa [insCells, InsR.cells, pushR] using hu⟩) (by simp) (by omega) (by omega) (by omega) (fun x hx => (push_full (by rw [hrv]; exact doV_in _ _ _ HXF.out.n) x hx).wf))
                  have HWZE := Lib.hid hwz
                  clear hwz hrv hbv
                  go_wp2_with fail
                  rw [← HWE2.out.1]
                  refine CD.out.mono ?_; rintro e w8 ⟨rfl, hw⟩
                  rw [hw]
                  clear hw
                  go_wp2_with fail
                  rw [← HWZE.out]
                  refine CC.out.mono ?_; rintro e w9 ⟨v9, rfl, ho9, hb9⟩
                  have HO9 := Lib.hid (And.intro ho9 hb9)
                  clear ho9 hb9
                  go_wp2_with fail
                  go_ret2
                  exact OnceP.hit (by have := HN.out; omega) HWZ.out HRU.out HT.out HO9.out.1 HO9.out.2
                · by_cases hy16 : oy = 16
                  · subst hy16
                    by_cases hn0 : nn = 0
                    · subst hn0
                      have HRU : Hid (ruleV l j = some (replv l j 2 [⟨15, ay, 0⟩])) := Lib.hid (by rw [HRU1.out]; unfold behindV; rw [if_neg (by simp), if_pos ⟨rfl, rfl⟩])
                      obtain ⟨wz, hwz⟩ : ∃ wz, wz = wy.alloc (.cells #[.int .i64 15, .int .i64 ay, .int .i64 0] 41) := ⟨_, rfl⟩
                      have HWZ : Hid (Below w.heap.size w wz) := Lib.hid (by rw [hwz]; exact HWY.out.alloc HWY.out.size _)
                      have CC := Lib.hid (CR.out wz (.slice (some ⟨wy.heap.size, 0, none⟩) 1 1) [⟨15, ay, 0⟩] j 2 HWZ.out (.inr ⟨wy.heap.size, 0, 1, rfl, by rw [hwz]; simp, Nat.le_refl _, by simp [maxLen], fun i u hu => by rw [Nat.zero_add, hwz, cell_of_block (heap_new _ _)]; simpa [insCells, InsR.cells] using hu⟩) (by simp) (by omega) (by omega) (by omega) (fun x hx => by rw [List.mem_singleton.1 hx]; exact ⟨HYF.out.a⟩))
                      have hsz : wy.heap.size = w1.heap.size + 1 := by rw [HWE2.out.1]; simp
                      rw [hsz] at CC
                      have HWZE := Lib.hid hwz
                      clear hwz hsz
                      go_wp2_with fail
                      rw [← HWE2.out.1, ← HWZE.out]
                      refine CC.out.mono ?_; rintro e w9 ⟨v9, rfl, ho9, hb9⟩
                      have HO9 := Lib.hid (And.intro ho9 hb9)
                      clear ho9 hb9
                      go_wp2_with fail
                      go_ret2
                      exact OnceP.hit (by have := HN.out; omega) HWZ.out HRU.out HT.out HO9.out.1 HO9.out.2
                    · skip
                      have HRU : Hid (ruleV l j = some (replv l j 2 [])) := Lib.hid (by rw [HRU1.out]; unfold behindV; rw [if_neg (by simp), if_neg (fun h => hn0 h.2), if_pos rfl])
                      have t9 : (nn == 0) = false := by rw [beq_eq_false_iff_ne]; exact hn0
                      have CC := Lib.hid (CR.out wy (.slice none 0 0) [] j 2 HWY.out (src_none wy) (by simp) (by omega) (by omega) (by omega) (by simp))
                      go_wp2_with fail
                      rw [← HWE2.out.1]
                      refine CC.out.mono ?_; rintro e w9 ⟨v9, rfl, ho9, hb9⟩
                      have HO9 := Lib.hid (And.intro ho9 hb9)
                      clear ho9 hb9
                      go_wp2_with fail
                      go_ret2
                      exact OnceP.hit (by have := HN.out; omega) HWY.out HRU.out HT.out HO9.out.1 HO9.out.2
                  · have t1 : (oy == 4) = false := by rw [beq_eq_false_iff_ne]; exact hy4
                    have t2 : (oy == 5) = false := by rw [beq_eq_false_iff_ne]; exact hy5
                    have t3 : (oy == 16) = false := by rw [beq_eq_false_iff_ne]; exact hy16
                    have HNY : Hid (¬ (oy = 4 ∨ oy = 5) ∧ ¬ oy = 16) := Lib.hid ⟨fun h => by rcases h with h | h; exact hy4 h; exact hy5 h, hy16⟩
                    clear hy4 hy5 hy16
                    by_cases hy1 : oy = 1
                    · subst hy1
                      clear t1 t2 t3
                      by_cases hj2 : j + 2 < n
                      · have t4 : decide ((n : Int) ≤ (j : Int) + 2) = false := decide_eq_false (by omega)
                        have hj2l : j + 2 < l.length := by have := HN.out; omega
                        obtain ⟨b', off', cap', hA', _, _, d0', d1', d2'⟩ := HS.out.get (j + 2) hj2l
                        injection hA' with hA1 _ hA3
                        injection hA1 with hA1
                        injection hA1 with hA1 hA1b
                        subst hA1 hA1b hA3
                        obtain ⟨z, hz⟩ : ∃ z, z = l[j + 2] := ⟨_, rfl⟩
                        rw [← hz] at d0'
                        have HZC : Hid (∀ w', Below w.heap.size w w' → w'.cell? ⟨b, off + (j + 2) * 3, none⟩ = some (.int .i64 z.op)) := Lib.hid (fun w' hb => (Below.chg hb).cell d0' (fun x => x))
                        have HZE : Hid (l[j + 2]? = some z) := Lib.hid (by rw [hz]; exact List.getElem?_eq_getElem hj2l)
                        clear hz hj2l d0' d1' d2'
                        obtain ⟨oz, az, nz⟩ := z
                        simp only at HZC
                        have e0 := HZC.out wy HWY.out
                        rw [HWE2.out.1] at e0
                        by_cases hz1 : oz < 6
                        · have HRN : Hid (ruleV l j = none) := Lib.hid (by
                            rw [HRU1.out]
                            unfold behindV
                            rw [if_neg (by simp), if_neg (by simp), if_neg (by simp)]
                            split
                            · rfl
                            · rw [HZE.out]; simp only []; rw [if_pos (.inl hz1)])
                          go_wp2_with fail
                          rw [← HWE2.out.1]
                          go_roundg (n - (j + 1))
                          case measure => have := HK.out; omega
                          case rel => exact ⟨j + 1, by omega, rfl, by go_num, Lib.hid (HNEXT.out HRN.out), HWY⟩
                        · by_cases hz2 : 14 < oz
                          · have t6 : decide (oz < 6) = false := decide_eq_false hz1
                            have HRN : Hid (ruleV l j = none) := Lib.hid (by
                              rw [HRU1.out]
                              unfold behindV
                              rw [if_neg (by simp), if_neg (by simp), if_neg (by simp)]
                              split
                              · rfl
                              · rw [HZE.out]; simp only []; rw [if_pos (.inr hz2)])
                            go_wp2_with fail
                            rw [← HWE2.out.1]
                            go_roundg (n - (j + 1))
                            case measure => have := HK.out; omega
                            case rel => exact ⟨j + 1, by omega, rfl, by go_num, Lib.hid (HNEXT.out HRN.out), HWY⟩
                          · have hz3 : 6 ≤ oz := by omega
                            have hz4 : oz ≤ 14 := by omega
                            clear hz1 hz2
                            have t6 : decide (oz < 6) = false := decide_eq_false (by omega)
                            have t7 : decide (14 < oz) = false := decide_eq_false (by omega)
                            have t8 : ¬ oz < 6 := by omega
                            have t9 : ¬ 14 < oz := by omega
                            obtain ⟨r2, hr2⟩ : ∃ r2, r2 = l.any (hitv ((j : Int) + 2)) := ⟨_, rfl⟩
                            have C2 := Lib.hid (CT.out wy ((j : Int) + 2) HWY.out)
                            rw [← hr2] at C2
                            have HFR2 : Hid (freev l ((j : Int) + 2) = !r2) := Lib.hid (by unfold freev; rw [decide_eq_true (by have := HN.out; omega), ← hr2]; simp)
                            obtain ⟨rv, hrv⟩ : ∃ rv, rv = (doV (oz + 2) nn ny).1 := ⟨_, rfl⟩
                            obtain ⟨bv, hbv⟩ : ∃ bv, bv = (doV (oz + 2) nn ny).2 := ⟨_, rfl⟩
                            have HRV : Hid (In64 rv) := Lib.hid (by rw [hrv]; exact doV_in _ _ _ HXF.out.n)
                            have CD : Hid (∀ w', Calls Tryd.prog 27 #[.int .i64 (oz + 2), .int .i64 nn, .int .i64 ny] w' fun e w'' => e = .returned (.tuple #[.int .i64 rv, .bool bv]) ∧ w'' = w') := Lib.hid (fun w' => by
                              have h := rdo_any (oz + 2) nn ny (by omega) HXF.out.n HYF.out.n w'
                              rw [← hrv, ← hbv] at h
                              exact h)
                            have HRU : Hid (ruleV l j = if r2 = true then none else if bv = true then some (replv l j 3 [pushR rv]) else none) := Lib.hid (by
                              rw [HRU1.out, hrv, hbv]
                              unfold behindV
                              rw [if_neg (by simp), if_neg (by simp), if_neg (by simp)]
                              cases r2 with
                              | true => rw [if_pos (.inr (by rw [HFR2.out]; rfl)), if_pos rfl]
                              | false => rw [if_neg (fun h => by rcases h with h | h; exact h rfl; rw [HFR2.out] at h; cases h), if_neg (by simp), HZE.out]; simp only []; rw [if_neg (by omega)])
                            clear hr2 hrv hbv
                            go_wp2_with fail
                            rw [← HWE2.out.1]
                            refine C2.out.mono ?_; rintro e w3 ⟨rfl, hb3⟩
                            rw [← HWE2.out.2]
                            have HW3 := Lib.hid (bel_trans HWY.out hb3)
                            have HB3X : Hid (w3.heap[F]? = some (.cells #[.int .i64 1, .int .i64 a, .int .i64 nn] 41 (0, 0))) := Lib.hid ((Below.chg hb3).heap HBXY.out (fun x => x))
                            have HB3Y : Hid (w3.heap[G]? = some (.cells #[.int .i64 1, .int .i64 ay, .int .i64 ny] 41 (0, 0))) := Lib.hid ((Below.chg hb3).heap HBY.out (fun x => x))
                            have y2 := cell_of_block HB3X.out 2
                            have y3 := cell_of_block HB3Y.out 2
                            simp at y2 y3
                            have y4 := HZC.out w3 HW3.out
                            clear x0 x1 x2 z0 z1 z2 d0 d1 d2 e0 HWE2 C2 hb3
                            cases r2 with
                            | true =>
                              have HRN : Hid (ruleV l j = none) := Lib.hid (by rw [HRU.out, if_pos rfl])
                              cases bv with
                              | true =>
                                go_wp2_with fail
                                go_quiet ((go_at_call 27; exact Calls.quiet_of_same (CD.out _)))
                                go_wp2_with fail
                                go_roundg (n - (j + 1))
                                case measure => have := HK.out; omega
                                case rel => exact ⟨j + 1, by omega, rfl, by go_num, Lib.hid (HNEXT.out HRN.out), Lib.hid (HW3.out.trans (((Chg.refl (fun _ => False) _).drewN _).below (B := w.heap.size) (fun k h => h.elim) HW3.out.size))⟩
                              | false =>
                                go_wp2_with fail
                                go_quiet ((go_at_call 27; exact Calls.quiet_of_same (CD.out _)))
                                go_wp2_with fail
                                go_roundg (n - (j + 1))
                                case measure => have := HK.out; omega
                                case rel => exact ⟨j + 1, by omega, rfl, by go_num, Lib.hid (HNEXT.out HRN.out), Lib.hid (HW3.out.trans (((Chg.refl (fun _ => False) _).drewN _).below (B := w.heap.size) (fun k h => h.elim) HW3.out.size))⟩
                            | false =>
                              cases bv with
                              | false =>
                                have HRN : Hid (ruleV l j = none) := Lib.hid (by rw [HRU.out, if_neg (by decide), if_neg (by decide)])
                                go_wp2_with fail
                                go_quiet ((go_at_call 27; exact Calls.quiet_of_same (CD.out _)))
                                go_wp2_with fail
                                go_roundg (n - (j + 1))
                                case measure => have := HK.out; omega
                                case rel => exact ⟨j + 1, by omega, rfl, by go_num, Lib.hid (HNEXT.out HRN.out), Lib.hid (HW3.out.trans (((Chg.refl (fun _ => False) _).drewN _).below (B := w.heap.size) (fun k h => h.elim) HW3.out.size))⟩
                              | true =>
                                have HRU9 : Hid (ruleV l j = some (replv l j 3 [pushR rv])) := Lib.hid (by rw [HRU.out, if_neg (by decide), if_pos rfl])
                                go_wp2_with fail
                                go_quiet ((go_at_call 27; exact Calls.quiet_of_same (CD.out _)))
                                obtain ⟨wq, hwq⟩ : ∃ wq, wq = w3.drewN nq := ⟨_, rfl⟩
                                rw [← hwq]
                                have HWQ : Hid (Below w.heap.size w wq) := Lib.hid (by rw [hwq]; exact HW3.out.trans (((Chg.refl (fun _ => False) _).drewN _).below (B := w.heap.size) (fun k h => h.elim) HW3.out.size))
                                clear hwq y2 y3 y4
                                obtain ⟨wz, hwz⟩ : ∃ wz, wz = wq.alloc (.cells #[.int .i64 1, .int .i64 0, .int .i64 rv] 41) := ⟨_, rfl⟩
                                have HWZ : Hid (Below w.heap.size w wz) := Lib.hid (by rw [hwz]; exact HWQ.out.alloc HWQ.out.size _)
                                have CC := Lib.hid (CR.out wz (.slice (some ⟨wq.heap.size, 0, none⟩) 1 1) [pushR rv] j 3 HWZ.out (.inr ⟨wq.heap.size, 0, 1, rfl, by rw [hwz]; simp, Nat.le_refl _, by simp [maxLen], fun i u hu => by rw [Nat.zero_add, hwz, cell_of_block (heap_new _ _)]; simpa [insCells, InsR.cells, pushR] using hu⟩) (by simp) (by omega) (by omega) (by omega) (fun x hx => (push_full HRV.out x hx).wf))
                                have HWZE := Lib.hid hwz
                                clear hwz
                                go_wp2_with fail
                                rw [← HWZE.out]
                                refine CC.out.mono ?_; rintro e w9 ⟨v9, rfl, ho9, hb9⟩
                                have HO9 := Lib.hid (And.intro ho9 hb9)
                                clear ho9 hb9
                                go_wp2_with fail
                                go_ret2
                                exact OnceP.hit (by have := HN.out; omega) HWZ.out HRU9.out HT.out HO9.out.1 HO9.out.2
                      · have t4 : (n : Int) ≤ (j : Int) + 2 := by omega
                        have HRN : Hid (ruleV l j = none) := Lib.hid (by
                          rw [HRU1.out]
                          unfold behindV
                          have hfr : freev l ((j : Int) + 2) = false := by unfold freev; rw [decide_eq_false (by have := HN.out; omega)]; rfl
                          rw [if_neg (by simp), if_neg (by simp), if_neg (by simp), if_pos (.inr hfr)])
                        go_wp2_with fail
                        rw [← HWE2.out.1]
                        go_roundg (n - (j + 1))
                        case measure => have := HK.out; omega
                        case rel => exact ⟨j + 1, by omega, rfl, by go_num, Lib.hid (HNEXT.out HRN.out), HWY⟩
                    · have HRN : Hid (ruleV l j = none) := Lib.hid (by
                        rw [HRU1.out]
                        unfold behindV
                        rw [if_neg HNY.out.1, if_neg (fun h => HNY.out.2 h.1), if_neg HNY.out.2, if_pos (.inl hy1)])
                      go_wp2_with fail
                      rw [← HWE2.out.1]
                      go_roundg (n - (j + 1))
                      case measure => have := HK.out; omega
                      case rel => exact ⟨j + 1, by omega, rfl, by go_num, Lib.hid (HNEXT.out HRN.out), HWY⟩
          · have q1 : (n : Int) ≤ (j : Int) + 1 := by omega
            have HRN : Hid (ruleV l j = none) := Lib.hid (by
              unfold ruleV
              rw [HXE.out]
              simp only []
              have hfr : freev l ((j : Int) + 1) = false := by unfold freev; rw [decide_eq_false (by have := HN.out; omega)]; rfl
              rw [if_neg hA, if_neg (by rw [hfr]; simp)])
            clear hA
            have q3 : ((1 : Int) == 15) = false := rfl
            go_wp2_with fail
            rw [← HWE.out.1]
            go_roundg (n - (j + 1))
            case measure => have := HK.out; omega
            case rel => exact ⟨j + 1, by omega, rfl, by go_num, Lib.hid (HNEXT.out HRN.out), HWX⟩
        · have q1 : (op == 1) = false := by rw [beq_eq_false_iff_ne]; exact hop1
          have HRN : Hid (ruleV l j = none) := Lib.hid (by
            unfold ruleV
            rw [HXE.out]
            simp only []
            rw [if_neg hA, if_neg (fun h => hop1 h.1)])
          by_cases h15 : op = 15
          · have q3 : (a == (j : Int) + 1) = false := by rw [beq_eq_false_iff_ne]; exact fun e => hA ⟨h15, e⟩
            subst h15
            clear hA
            go_wp2_with fail
            rw [← HWE.out.1]
            go_roundg (n - (j + 1))
            case measure => have := HK.out; omega
            case rel => exact ⟨j + 1, by omega, rfl, by go_num, Lib.hid (HNEXT.out HRN.out), HWX⟩
          · have q2 : (op == 15) = false := by rw [beq_eq_false_iff_ne]; exact h15
            clear hA
            go_wp2_with fail
            rw [← HWE.out.1]
            go_roundg (n - (j + 1))
            case measure => have := HK.out; omega
            case rel => exact ⟨j + 1, by omega, rfl, by go_num, Lib.hid (HNEXT.out HRN.out), HWX⟩
    · have hfin : firstRule l = none := firstRule_not (fun i hi => HT.out i (by have := HN.out; omega))
      have HFIN := Lib.hid hfin
      clear hfin
      go_wp2_with fail
      go_ret2
      exact .inr ⟨HFIN.out, rfl, HW.out⟩
end Go.Proofs.YtpjpndndpcebcaaDoor
