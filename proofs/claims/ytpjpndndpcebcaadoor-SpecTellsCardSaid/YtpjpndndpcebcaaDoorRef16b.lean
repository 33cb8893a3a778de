/- evenhandref16: replaced. -/
import Derived.Test.YtpjpndndpcebcaaDoorRef16
namespace Go.Proofs.YtpjpndndpcebcaaDoor
set_option linter.unusedVariables false
set_option linter.unusedSimpArgs false
open Go.RowKit

set_option maxHeartbeats 4000000 in
set_option maxRecDepth 100000 in
theorem replaced_any {w : World} {v u : Value} {l bs : List InsR} (at_ many : Nat) (hs : Src w v l.length (insCells l)) (hl : l.length ≤ 1048576) (hm : 1 ≤ many) (hm3 : many ≤ 3) (hat : at_ + many ≤ l.length) (hb1 : bs.length ≤ 1) (hu : Src w u bs.length (insCells bs)) (hwl : ∀ x ∈ l, WfI x) (hwb : ∀ x ∈ bs, WfI x) :
    Calls Tryd.prog 25 #[v, .int .i64 at_, .int .i64 many, u] w fun e w' => ∃ v', e = .returned v' ∧ w'.ownsRow 0 41 3 v' (replv l at_ many bs).length (insCells (replv l at_ many bs)) ∧ (∀ k, v'.ownBlock = some k → w.heap.size ≤ k) ∧ Below w.heap.size w w' := by
  obtain ⟨_, uA, uc, rfl⟩ := hu.bound
  rcases hs with ⟨_, h0, _⟩ | ⟨b, off, c, rfl, hbs, hlc, hlm, hcell⟩
  · omega
  obtain ⟨R, hR⟩ : ∃ R, R = repl l at_ (at_ + many) bs := ⟨_, rfl⟩
  have hrv : replv l at_ many bs = R.map (fixA at_ many bs.length) := by rw [hR]; rfl
  rw [hrv]
  obtain ⟨n, hn⟩ : ∃ n, n = l.length := ⟨_, rfl⟩
  obtain ⟨m, hmd⟩ : ∃ m, m = bs.length := ⟨_, rfl⟩
  obtain ⟨d, hd⟩ : ∃ d, d = n - (at_ + many) := ⟨_, rfl⟩
  have hRl : R.length = at_ + m + d := by rw [hR, repl_length _ _ _ _ (by omega) hat]; omega
  have HWR : Hid (∀ x ∈ R, WfI x) := Lib.hid (fun x hx => by
    rw [hR] at hx
    simp only [repl, List.mem_append] at hx
    rcases hx with (hx | hx) | hx
    · exact hwl x (List.mem_of_mem_take hx)
    · exact hwb x hx
    · exact hwl x (List.mem_of_mem_drop hx))
  have HS1 : Hid (∀ w', Below w.heap.size w w' → Src w' (.slice (some ⟨b, off, none⟩) at_ c) at_ (insCells (l.take at_))) := Lib.hid (fun w' hb => .inr ⟨b, off, c, rfl, Nat.lt_of_lt_of_le hbs hb.size, by omega, by unfold maxLen; omega, fun j x hx => (Below.chg hb).cell (hcell j x (by
    have : insCells l = insCells (l.take at_) ++ insCells (l.drop at_) := by rw [← insCells_append, List.take_append_drop]
    rw [this, List.getElem?_append_left (List.getElem?_eq_some_iff.1 hx).1]
    exact hx)) (fun x => x)⟩)
  have HS2 : Hid (∀ w', Below w.heap.size w w' → Src w' (.slice uA m uc) m (insCells bs)) := Lib.hid (fun w' hb => by rw [hmd]; exact hu.kept (Below.chg hb) (.inr fun _ _ x => x))
  obtain ⟨p, hp⟩ : ∃ p, p = at_ + many := ⟨_, rfl⟩
  obtain ⟨T3, hT3⟩ : ∃ T3 : Option Addr, (if c = p then some ⟨b, off, none⟩ else some ⟨b, off + p * 3, none⟩) = T3 := ⟨_, rfl⟩
  have HS3 : Hid (∀ w', Below w.heap.size w w' → Src w' (.slice T3 d (c - p)) d (insCells (l.drop (at_ + many)))) := Lib.hid (fun w' hb => by
    by_cases hcp : c = p
    · rw [if_pos hcp] at hT3
      have h0 : d = 0 := by omega
      have h1 : l.drop (at_ + many) = [] := List.drop_eq_nil_of_le (by omega)
      rw [h0, h1]
      exact .inl ⟨⟨_, _, rfl⟩, rfl, rfl⟩
    · rw [if_neg hcp] at hT3
      subst hT3
      rw [hp]
      refine .inr ⟨b, off + (at_ + many) * 3, c - (at_ + many), rfl, Nat.lt_of_lt_of_le hbs hb.size, by omega, by unfold maxLen; omega, fun j x hx => ?_⟩
      rw [insCells_drop, List.getElem?_drop] at hx
      have := (Below.chg hb).cell (hcell _ x hx) (fun x => x)
      rwa [show off + ((at_ + many) * 3 + j) = off + (at_ + many) * 3 + j by omega] at this)
  have HCL : Hid (insCells R = insCells (l.take at_) ++ insCells bs ++ insCells (l.drop (at_ + many)) ∧ (insCells (l.take at_)).length = at_ * 3 ∧ (insCells bs).length = m * 3 ∧ (insCells (l.drop (at_ + many))).length = d * 3) := Lib.hid (by
    refine ⟨by rw [hR]; simp [repl, insCells_append], by rw [insCells_length, List.length_take]; omega, by rw [insCells_length, hmd], by rw [insCells_length, List.length_drop]; omega⟩)
  have hatn : at_ + many ≤ n := by omega
  have hnb : n ≤ 1048576 := by omega
  have hnc : n ≤ c := by omega
  have HRL := Lib.hid hRl
  have hmb : m ≤ 1 := by omega
  rw [← hmd, ← hn]
  have HND := Lib.hid (And.intro hn (And.intro hmd hd))
  have e1 : IntKind.i64.wrap ((at_ : Int) + (many : Int)) = (p : Int) := by rw [IntKind.wrap_i64]; omega
  have hpn : p ≤ n := by omega
  have hdp : n - p = d := by omega
  have hpd : p + d = n := by omega
  have HPD := Lib.hid hp
  obtain ⟨ln, hln⟩ : ∃ ln, ln = at_ + m + d := ⟨_, rfl⟩
  have hlb : ln ≤ 1048577 := by omega
  have HLR : Hid (R.length = ln) := Lib.hid (by rw [HRL.out, hln])
  rw [show (R.map (fixA at_ many m)).length = ln by rw [List.length_map, HLR.out]]
  have HLN := Lib.hid hln
  clear hln
  clear hrv hn hmd hR hRl hcell hu hwl hwb hbs hlc hlm hat hb1 hl hd hp
  obtain ⟨i0, hi, hz0, hz1, hz2⟩ := info_parts infoRIns
  go_enter Tryd.func25, Tryd.ntmps25
  go_upto_region 1 with fail
  obtain ⟨wd, hwd⟩ : ∃ wd, wd = w.drew := ⟨_, rfl⟩
  have hb : Below w.heap.size w wd := by rw [hwd]; exact (Below.refl _ _).drew
  refine wp_region_ord (S := fun w' => True) (N := fun i => true) (by kernel_rfl) [(1, true), (2, true), (3, true), (5, true), (7, true), (8, true), (9, true), (10, true), (11, true), (0, false), (4, false), (6, false), (12, false), (13, true)] (by kernel_rfl) ?_
  rw [← hwd]
  clear hwd
  have hac : at_ ≤ c := by omega
  iterate 9 (refine ord_look rfl trivial rfl (by intro w hS; go_simp; with_reducible rfl) (fun c a w h => h) ?_; simp only [Act.put, List.setIfInBounds_toArray, List.set_cons_succ, List.set_cons_zero])
  refine ord_act rfl rfl (fun K hK => ?_)
  go_simp
  obtain ⟨wx, hwx⟩ : ∃ wx, wx = wd.alloc (.cells #[] 41) := ⟨_, rfl⟩
  obtain ⟨g, hg⟩ : ∃ g, g = wd.heap.size := ⟨_, rfl⟩
  rw [← hwx, ← hg]
  have hbx : Below w.heap.size w wx := by rw [hwx]; exact hb.alloc hb.size _
  have hgl : w.heap.size ≤ g := by rw [hg]; exact hb.size
  have hrow0 : wx.ownsRow 0 41 3 (.slice (some ⟨g, 0, none⟩) 0 0) 0 [] := ⟨rfl, .inr ⟨g, 0, #[], rfl, Nat.zero_le _, by rw [hwx]; exact heap_new' hg.symm, Nat.le_refl _, by simp [maxLen], rfl, rfl⟩⟩
  refine hK _ _ ⟨fun _ => trivial, ?_⟩
  clear hK K hwx hg
  try simp only [Act.put, List.setIfInBounds_toArray, List.set_cons_succ, List.set_cons_zero]
  have hown0 : ∀ k, (Value.slice (some ⟨g, 0, none⟩) 0 0).ownBlock = some k → w.heap.size ≤ k := fun k hk => by
    obtain rfl : g = k := by injection hk
    exact hgl
  refine ord_act rfl rfl (fun K hK => ?_)
  refine wp_app (.tmp 12) (.tmp 15) 26 rfl 0 41 i0 _ 3 24 Tryd.underlying26 hi hz0 hz1 hz2 rfl (by omega) (.slice (some ⟨g, 0, none⟩) 0 0) (0) ([]) rfl hrow0 (.slice (some ⟨b, off, none⟩) at_ c) at_ (insCells (l.take at_)) rfl (HS1.out _ hbx) HCL.out.2.1 (insCells_one _) (by unfold maxLen; omega) (by omega) (by omega) ?_
  intro v1 w1 ho1 hg1 hat1
  rw [Nat.zero_add, List.nil_append] at ho1
  obtain ⟨_, A1, c1, rfl⟩ := ownsRow_slice ho1
  have hb1 : Below w.heap.size w w1 := hbx.trans ((Chg.of_grown hg1).below (B := w.heap.size) (fun k hk => hown0 k hk) hbx.size)
  have hown1 : ∀ k, (Value.slice A1 _ c1).ownBlock = some k → w.heap.size ≤ k := fun k hk => by
    rcases hat1 with h | h
    · rw [h] at hk; exact hown0 k hk
    · rw [h] at hk
      obtain rfl : wx.heap.size = k := by injection hk
      exact hbx.size
  refine hK _ _ ⟨fun _ => trivial, ?_⟩
  clear hK K
  try simp only [Act.put, List.setIfInBounds_toArray, List.set_cons_succ, List.set_cons_zero]
  refine ord_act rfl rfl (fun K hK => ?_)
  refine wp_app (.tmp 16) (.tmp 17) 26 rfl 0 41 i0 _ 3 24 Tryd.underlying26 hi hz0 hz1 hz2 rfl (by omega) (.slice A1 at_ c1) (at_) (insCells (l.take at_)) rfl ho1 (.slice uA m uc) m (insCells bs) rfl (HS2.out _ hb1) HCL.out.2.2.1 (insCells_one _) (by unfold maxLen; omega) (by omega) (by omega) ?_
  intro v2 w2 ho2 hg2 hat2
  obtain ⟨_, A2, c2, rfl⟩ := ownsRow_slice ho2
  have hb2 : Below w.heap.size w w2 := hb1.trans ((Chg.of_grown hg2).below (B := w.heap.size) (fun k hk => hown1 k hk) hb1.size)
  have hown2 : ∀ k, (Value.slice A2 _ c2).ownBlock = some k → w.heap.size ≤ k := fun k hk => by
    rcases hat2 with h | h
    · rw [h] at hk; exact hown1 k hk
    · rw [h] at hk
      obtain rfl : w1.heap.size = k := by injection hk
      exact hb1.size
  refine hK _ _ ⟨fun _ => trivial, ?_⟩
  clear hK K
  try simp only [Act.put, List.setIfInBounds_toArray, List.set_cons_succ, List.set_cons_zero]
  refine ord_act rfl rfl (fun K hK => ?_)
  refine wp_app (.tmp 18) (.tmp 23) 26 rfl 0 41 i0 _ 3 24 Tryd.underlying26 hi hz0 hz1 hz2 rfl (by omega) (.slice A2 (at_ + m) c2) (at_ + m) (insCells (l.take at_) ++ insCells bs) rfl ho2 (.slice T3 d (c - p)) d (insCells (l.drop (at_ + many))) rfl (HS3.out _ hb2) HCL.out.2.2.2 (insCells_one _) (by unfold maxLen; omega) (by omega) (by omega) ?_
  intro v3 w3 ho3 hg3 hat3
  obtain ⟨_, A3, c3, rfl⟩ := ownsRow_slice ho3
  have hb3 : Below w.heap.size w w3 := hb2.trans ((Chg.of_grown hg3).below (B := w.heap.size) (fun k hk => hown2 k hk) hb2.size)
  have hown3 : ∀ k, (Value.slice A3 _ c3).ownBlock = some k → w.heap.size ≤ k := fun k hk => by
    rcases hat3 with h | h
    · rw [h] at hk; exact hown2 k hk
    · rw [h] at hk
      obtain rfl : w2.heap.size = k := by injection hk
      exact hb2.size
  refine hK _ _ ⟨fun _ => trivial, ?_⟩
  clear hK K
  try simp only [Act.put, List.setIfInBounds_toArray, List.set_cons_succ, List.set_cons_zero]
  refine ord_look rfl trivial rfl (by intro w hS; go_simp; with_reducible rfl) (fun c a w h => h) ?_; simp only [Act.put, List.setIfInBounds_toArray, List.set_cons_succ, List.set_cons_zero]
  refine ord_end ?_
  rw [← HCL.out.1] at ho3
  rw [← HLN.out] at ho3 hown3 ⊢
  have HO3 := Lib.hid ho3
  have HB3 := Lib.hid hb3
  have HOW := Lib.hid hown3
  clear ho1 ho2 ho3 hg1 hg2 hg3 hat1 hat2 hat3 hb1 hb2 hb3 hown0 hown1 hown2 hown3 hrow0 HS1 HS2 HS3 HCL hT3 hb hbx hgl HRL HND HPD e1 hpn hdp hpd
  go_wp2_with fail
  go_loopg [11] ln (fun kk v wr => ∃ j : Nat, j ≤ ln ∧ kk = ln - j ∧ v = .int .i64 j ∧ Hid (wr.ownsRow 0 41 3 (.slice A3 ln c3) ln (insCells ((R.take j).map (fixA at_ many m) ++ R.drop j))) ∧ Hid (Below w.heap.size w wr))
  case atStart => exact ⟨0, by omega, rfl, rfl, HO3, HB3⟩
  case round =>
    obtain ⟨j, hj, hk, rfl, HO, HB⟩ := hrel
    have HK := Lib.hid hk
    clear hk HO3 HB3
    by_cases hlt : j < ln
    · have hjR : j < R.length := by rw [HLR.out]; exact hlt
      have hst := step_set R (fixA at_ many m) j hjR
      obtain ⟨x, hx⟩ : ∃ x, R[j] = x := ⟨_, rfl⟩
      rw [hx] at hst
      have hwx := HWR.out x (by rw [← hx]; exact List.getElem_mem _)
      obtain ⟨lj, hlj⟩ : ∃ lj, (R.take j).map (fixA at_ many m) ++ R.drop j = lj := ⟨_, rfl⟩
      rw [hlj] at hst HO
      have hljl : lj.length = ln := by rw [← hlj, List.length_append, List.length_map, List.length_take, List.length_drop]; have := HLR.out; omega
      have hljx : lj[j]? = some x := by
        have hl : ((R.take j).map (fixA at_ many m)).length = j := by rw [List.length_map, List.length_take]; omega
        rw [← hlj, List.getElem?_append_right (by omega), hl, Nat.sub_self, List.getElem?_drop, Nat.add_zero, List.getElem?_eq_getElem hjR, hx]
      obtain ⟨g3, cap, e, hgl3, hcells⟩ := ownsRow_at HO.out (by omega)
      injection e with e1 e2 e3
      subst e1 e3
      have hljj : lj[j]'(by omega) = x := by
        have h := List.getElem?_eq_getElem (l := lj) (i := j) (by omega)
        rw [hljx] at h
        injection h with h
        exact h.symm
      obtain ⟨i0', i1', i2'⟩ := insCells_get lj j (by omega)
      rw [hljj] at i0' i1' i2'
      have q0 := hcells _ _ i0'
      have q1 := hcells _ _ i1'
      have hjc : ln ≤ c3 := by
        rcases HO.out.2 with ⟨e, _⟩ | ⟨_, _, _, e, _, _, h, _⟩
        · cases e
        · injection e with _ _ e; omega
      have hf : wr.frozen? ⟨g3, j * 3 + 1, none⟩ = false := by
        rcases HO.out.2 with ⟨e, _⟩ | ⟨g', _, _, e, _, hh, _⟩
        · cases e
        · injection e with e _ _
          injection e with e
          injection e with e
          subst e
          exact frozen_of_block hh _
      obtain ⟨op, a, nn⟩ := x
      simp only at q0 q1
      have HST := Lib.hid hst
      have HLX := Lib.hid hljx
      have hwa := hwx.a
      unfold In64 at hwa
      obtain ⟨hwa0, hwa1⟩ := hwa
      simp only at hwa0 hwa1
      have hG : w.heap.size ≤ g3 := HOW.out g3 rfl
      clear hst hx hwx hlj hljx hljj i0' i1' i2' hcells hjR hljl e2
      have HSAME : Hid (¬ (jumpsv ⟨op, a, nn⟩ = true ∧ (at_ : Int) < a) → (R.take (j + 1)).map (fixA at_ many m) ++ R.drop (j + 1) = lj) := Lib.hid (fun h => by
        have hnof : fixA at_ many m ⟨op, a, nn⟩ = ⟨op, a, nn⟩ := by
          unfold fixA
          rw [if_neg h]
        rw [HST.out, hnof]
        exact set_same HLX.out)
      by_cases hcond : (op = 15 ∨ op = 16) ∧ (at_ : Int) < a
      · obtain ⟨hop, hlta⟩ := hcond
        obtain ⟨a', ha'⟩ : ∃ a', (if a - (many : Int) + (m : Int) < (at_ : Int) + (m : Int) then (at_ : Int) + (m : Int) else a - (many : Int) + (m : Int)) = a' := ⟨_, rfl⟩
        have hfx : fixA at_ many m ⟨op, a, nn⟩ = ⟨op, a', nn⟩ := by
          unfold fixA
          rw [if_pos ⟨by simp [jumpsv, hop], hlta⟩, ← ha']
        have hmx : max (a - ((many : Int) - (m : Int))) ((at_ : Int) + (m : Int)) = a' := by rw [← ha']; split <;> omega
        have hw1 : wrap64 (a - ((many : Int) - (m : Int))) = a - ((many : Int) - (m : Int)) := by unfold wrap64; omega
        have hnew : (wr.setCell ⟨g3, j * 3 + 1, none⟩ (.int .i64 a')).ownsRow 0 41 3 (.slice (some ⟨g3, 0, none⟩) ln c3) ln (insCells ((R.take (j + 1)).map (fixA at_ many m) ++ R.drop (j + 1))) := by
          have h := ownsRow_set HO.out (j * 3 + 1) (by omega) (.int .i64 a')
          rw [← insCells_set lj j ⟨op, a, nn⟩ a' HLX.out] at h
          rw [HST.out, hfx]
          exact h
        have HNEW := Lib.hid hnew
        have HBN : Hid (Below w.heap.size w (wr.setCell ⟨g3, j * 3 + 1, none⟩ (.int .i64 a'))) := Lib.hid (HB.out.trans (((Chg.refl (fun k => w.heap.size ≤ k) wr).setCell (p := ⟨g3, j * 3 + 1, none⟩) (fun _ => hG) (.int .i64 a')).below (B := w.heap.size) (fun k hk => hk) HB.out.size))
        clear ha' hfx hnew
        rcases hop with rfl | rfl
        · go_wp2_with fail
          go_roundg (ln - (j + 1))
          case measure => have := HK.out; omega
          case rel => exact ⟨j + 1, by omega, rfl, by go_num, HNEW, HBN⟩
        · go_wp2_with fail
          go_roundg (ln - (j + 1))
          case measure => have := HK.out; omega
          case rel => exact ⟨j + 1, by omega, rfl, by go_num, HNEW, HBN⟩
      · have HNC : Hid (¬ (jumpsv ⟨op, a, nn⟩ = true ∧ (at_ : Int) < a)) := Lib.hid (fun h => hcond ⟨by simpa [jumpsv] using h.1, h.2⟩)
        by_cases h15 : op = 15 ∨ op = 16
        · have hge : a ≤ (at_ : Int) := by
            rcases Int.lt_or_le (at_ : Int) a with h | h
            · exact absurd ⟨h15, h⟩ hcond
            · exact h
          have hge2 : ¬ (at_ : Int) < a := by omega
          clear hcond
          rcases h15 with rfl | rfl
          · skip
            have HKP : Hid (wr.ownsRow 0 41 3 (.slice (some ⟨g3, 0, none⟩) ln c3) ln (insCells ((R.take (j + 1)).map (fixA at_ many m) ++ R.drop (j + 1)))) := Lib.hid (by rw [HSAME.out (HNC.out)]; exact HO.out)
            go_wp2_with fail
            go_roundg (ln - (j + 1))
            case measure => have := HK.out; omega
            case rel => exact ⟨j + 1, by omega, rfl, by go_num, HKP, HB⟩
          · skip
            have HKP : Hid (wr.ownsRow 0 41 3 (.slice (some ⟨g3, 0, none⟩) ln c3) ln (insCells ((R.take (j + 1)).map (fixA at_ many m) ++ R.drop (j + 1)))) := Lib.hid (by rw [HSAME.out (HNC.out)]; exact HO.out)
            go_wp2_with fail
            go_roundg (ln - (j + 1))
            case measure => have := HK.out; omega
            case rel => exact ⟨j + 1, by omega, rfl, by go_num, HKP, HB⟩
        · have t1 : (op == 15) = false := by rw [beq_eq_false_iff_ne]; exact fun e => h15 (.inl e)
          have t2 : (op == 16) = false := by rw [beq_eq_false_iff_ne]; exact fun e => h15 (.inr e)
          clear hcond h15
          have HKP : Hid (wr.ownsRow 0 41 3 (.slice (some ⟨g3, 0, none⟩) ln c3) ln (insCells ((R.take (j + 1)).map (fixA at_ many m) ++ R.drop (j + 1)))) := Lib.hid (by rw [HSAME.out (HNC.out)]; exact HO.out)
          go_wp2_with fail
          go_roundg (ln - (j + 1))
          case measure => have := HK.out; omega
          case rel => exact ⟨j + 1, by omega, rfl, by go_num, HKP, HB⟩
    · have hjn : j = ln := by omega
      have HRR : Hid (wr.ownsRow 0 41 3 (.slice A3 ln c3) ln (insCells (R.map (fixA at_ many m)))) := Lib.hid (by
        have h := HO.out
        rw [hjn, ← HLR.out, List.take_length, List.drop_length, List.append_nil] at h
        rw [← HLR.out]; exact h)
      clear hjn
      go_wp2_with fail
      go_ret
      exact ⟨_, rfl, HRR.out, HOW.out, HB.out⟩
end Go.Proofs.YtpjpndndpcebcaaDoor
