/- law19: TierSkips. -/
import Derived.Test.YtgiegkacilfofaaDoorTRd
import Derived.Test.YtgiegkacilfofaaDoorTierSh
import Derived.Test.YtgiegkacilfofaaDoorOrd
namespace Go.Proofs.YtgiegkacilfofaaDoor
set_option linter.unusedVariables false
set_option linter.unusedSimpArgs false
open Go.RowKit Go.Conc

theorem tfewv_small {fs : List FnR} (hf : ∀ f ∈ fs, ∀ x ∈ f.l, Full x) : (tfewv fs).length ≤ 5 ∧ ∀ f ∈ tfewv fs, f.l.length ≤ 60 ∧ (∀ y ∈ f.l, Full y) ∧ 0 ≤ f.ps ∧ f.ps ≤ 8 := by
  refine ⟨by unfold tfewv; rw [List.length_map, List.length_take]; omega, fun f h => ?_⟩
  unfold tfewv at h
  obtain ⟨g, hg, rfl⟩ := List.mem_map.1 h
  have hg := List.mem_of_mem_take hg
  exact ⟨by unfold tfewf; simp only [List.length_take]; omega, fun y hy => hf g hg y (List.mem_of_mem_take hy), by unfold tfewf clampP; simp only; omega, by unfold tfewf clampP; simp only; omega⟩
/-- nothing is compiled, nothing will be -/
structure Idle (T : TS) : Prop where
  picks : ∀ p ∈ T.picks, p < 1 ∨ 3 < p
  cache : T.cache = []
  evs : T.evs = []
theorem Idle.enter {T : TS} (h : Idle T) (cap : Int) (fn : Int) (args : List Int) : (enterV cap T fn args).1 = ([], false, 0) ∧ Idle (enterV cap T fn args).2 := by
  obtain ⟨h1, h2, h3⟩ := h
  unfold enterV
  split
  · exact ⟨rfl, h1, h2, h3⟩
  · have hp : ¬ (pickV T = 1 ∨ pickV T = 2) ∧ pickV T ≠ 3 := by
      unfold pickV
      rcases hq : T.picks with _ | ⟨p, r⟩
      · simp
      · have := h1 p (by rw [hq]; exact List.mem_cons_self)
        simp only [List.headD_cons]
        omega
    have hm : midV cap T fn.toNat (seenV T fn.toNat args) = (pickedV T, 0) := by
      unfold midV
      rw [if_neg (fun e => hp.1 e.1), if_neg (fun e => hp.2 e.1)]
    unfold enterN
    rw [hm]
    have hc : (pickedV T).cache = [] := h2
    unfold lastV
    simp only
    rw [hc]
    refine ⟨rfl, fun p hpm => h1 p ?_, h2, h3⟩
    exact List.mem_of_mem_tail hpm

set_option maxHeartbeats 8000000 in
set_option maxRecDepth 100000 in
theorem tierSkips_walk (W : World) (fs : List FnR) (cs : List Value) (AP : Option Addr) (cP : Nat) (pub : List (List Bool)) (q : Int) (A3 : Option Addr) (c3 : Nat) (picks : List Int) (A4 : Option Addr) (c4 : Nat) (asks : List AskR) (hL : TxtIs W) (hf : rdCode.K W fs cs) (hp : PubAt W AP cP pub) (wq : (Lit.int .i64 q).wf = true) (hk : NumsAt W A3 c3 picks) (ha : AsksAt W A4 c4 asks) :
    Calls Tryd.prog 4 #[.agg cs.toArray, .slice AP pub.length cP, .int .i64 q, .slice A3 picks.length c3, .slice A4 asks.length c4] W fun e w' => e = .returned (.bool true) ∧ Below W.heap.size W w' := by
  have hf : CodeAt W fs cs := hf
  obtain ⟨A, c, rfl, hfs, hfull⟩ := hf
  simp only [List.toArray]
  obtain ⟨wa, hwa⟩ : ∃ z, z = W.alloc (.cells #[.slice A fs.length c] 24) := ⟨_, rfl⟩
  obtain ⟨Q1, hQ1⟩ : ∃ z, z = W.heap.size := ⟨_, rfl⟩
  have ca : Chg (fun _ => False) W wa := by rw [hwa]; exact (Chg.refl _ _).alloc _
  have x1 : wa.heap[Q1]? = some (.cells #[.slice A fs.length c] 24 (0, 0)) := by rw [hwa]; exact heap_new' hQ1.symm
  obtain ⟨nk, hnk⟩ : ∃ z, z = picks.length := ⟨_, rfl⟩
  obtain ⟨na, hna⟩ : ∃ z, z = asks.length := ⟨_, rfl⟩
  rw [← hnk, ← hna]
  obtain ⟨kf, hkf⟩ : ∃ z, z = fs.length := ⟨_, rfl⟩
  rw [← hkf] at hwa x1 hfs ⊢
  have hnk63 : nk ≤ 9223372036854775807 := by have := hk.2.2; omega
  have hna63 : na ≤ 9223372036854775807 := by have h1 := ha.1; have h2 := ha.2.1; unfold maxLen at h2; omega
  have HN := Lib.hid (And.intro hnk (And.intro hna hkf))
  have HFS := Lib.hid (And.intro hfs hfull)
  have HPU := Lib.hid hp
  have HPK := Lib.hid hk
  have HAS := Lib.hid ha
  have HX := Lib.hid x1
  have HBA : Hid (Below W.heap.size W wa) := Lib.hid ca.to_below
  have CS := Lib.hid (tshown_any (hL.keep ca.to_below))
  have HW := Lib.hid (And.intro hwa hQ1)
  clear hfs hfull hp hk ha x1 ca hwa hQ1 hnk hna hkf hL
  go_enter Tryd.func4, Tryd.ntmps4
  go_wp2_with fail
  rw [← HW.out.1, ← HW.out.2]
  refine CS.out.mono ?_
  rintro e wb ⟨rfl, hbb⟩
  have HBB : Hid (Below W.heap.size W wb) := Lib.hid (HBA.out.trans (hbb.mono HBA.out.size))
  have HXB : Hid (wb.heap[Q1]? = some (.cells #[.slice A kf c] 24 (0, 0))) := Lib.hid ((Below.chg hbb).heap HX.out (fun x => x))
  obtain ⟨i0, hi, hz0, hz1, hz2⟩ := info_parts (show (Tryd.prog.info? 2).map (fun i => (i.zero, i.size, i.bytes)) = some (some (.int .i64 0), 1, 8) by kernel_rfl)
  clear hbb CS HX
  go_wp2_with fail
  go_loopg [12, 13] (nk + 1) (fun z V i wr => ∃ (j : Nat) (own : List Int) (on : Nat), j ≤ nk ∧ j ≤ 200 ∧ z = nk + 1 - j ∧ i = .int .i64 j ∧ on ≤ j ∧ (∃ AV cV, V = .slice AV on cV) ∧ Hid (on = own.length ∧ (∀ p ∈ own, (p < 1 ∨ 3 < p) ∧ In64 p)) ∧ Hid (wr.ownsRow 0 2 1 V on (nums own)) ∧ Hid (∀ k, V.ownBlock = some k → wb.heap.size ≤ k) ∧ Hid (Below wb.heap.size wb wr))
  case atStart => exact ⟨0, [], 0, by omega, by omega, rfl, rfl, by omega, ⟨_, _, rfl⟩, Lib.hid ⟨rfl, fun p hp => by cases hp⟩, Lib.hid (World.ownsRow_nil _ _ _ _), Lib.hid (fun k hk => by cases hk), Lib.hid (Below.refl _ _)⟩
  case round =>
    obtain ⟨j, own, on, hj, hj2, hz, rfl, hon, ⟨AV, cV, rfl⟩, HOW, HROW0, HFAR, HBE⟩ := hrel
    have HZ := Lib.hid hz
    clear hz
    have HBR : Hid (Below W.heap.size W wr) := Lib.hid (HBB.out.trans (HBE.out.mono HBB.out.size))
    by_cases hlt : j < nk ∧ j < 200
    · have hjp : j < picks.length := by rw [← HN.out.1]; exact hlt.1
      obtain ⟨_, _, _, hget⟩ := (HPK.out.1.keep HBR.out).get
      obtain ⟨b, off, rfl, q0⟩ := hget j hjp
      have hin := HPK.out.2.1 picks[j] (List.getElem_mem _)
      obtain ⟨xv, hxv⟩ : ∃ z, z = picks[j] := ⟨_, rfl⟩
      rw [← hxv] at q0 hin
      clear hxv hget
      have h1 := hlt.1
      have h2 := hlt.2
      clear hlt
      by_cases hs : xv < 1 ∨ 3 < xv
      · obtain ⟨wx, hwx⟩ : ∃ z, z = wr.alloc (.cells #[.int .i64 xv] 2) := ⟨_, rfl⟩
        have hcx : Chg (fun _ => False) wr wx := by rw [hwx]; exact (Chg.refl _ _).alloc _
        have HROW : Hid (wx.ownsRow 0 2 1 (.slice AV on cV) on (nums own)) := Lib.hid (ownsRow_kept HROW0.out hcx (fun _ _ x => x))
        have HNEW : Hid (∀ (i : Nat) u, ([.int .i64 xv] : List Value)[i]? = some u → wx.cell? ((⟨wr.heap.size, 0, none⟩ : Addr).add i) = some u) := Lib.hid (World.news_of_block (cs := #[.int .i64 xv]) (t := 2) (fr := (0, 0)) (by rw [hwx]; exact heap_new _ _))
        have HSZ : Hid (wx.heap.size = wr.heap.size + 1) := Lib.hid (by rw [hwx]; simp)
        have HC := Lib.hid hcx
        have HWX := Lib.hid hwx
        have HSS := Lib.hid (And.intro hs hin)
        clear hwx hcx hin
        -- END
        rcases hs with hs | hs
        · have t1 : decide (xv < 1) = true := decide_eq_true hs
          go_wp2_with (at_builtin; rw [← HWX.out]; refine wpList_append_lies _ rfl _ _ _ rfl 0 2 i0 _ 1 8 Tryd.underlying26 hi hz0 hz1 hz2 rfl (by omega) (.slice AV on cV) on (nums own) rfl HROW.out ⟨wr.heap.size, 0, none⟩ 1 1 [.int .i64 xv] rfl rfl HNEW.out (by simp [Value.oneCell']) (by omega) (by unfold maxLen; omega) (by omega) (by omega) (wr.heap.size + 1) HSZ.out ?_; intro g5 cap5 w5 hown5 hgrow5 hat5 hlt5; have HC5 := Lib.hid (And.intro hown5 (And.intro (Chg.of_grown hgrow5) hat5)); clear hown5 hgrow5 hat5 hlt5)
          go_roundg (nk + 1 - (j + 1))
          case measure => have := HZ.out; omega
          case rel =>
            refine ⟨j + 1, own ++ [xv], on + 1, by omega, by omega, rfl, by go_num, by omega, ⟨_, _, rfl⟩, Lib.hid ⟨by rw [List.length_append, ← HOW.out.1]; rfl, fun p hp => ?_⟩, Lib.hid ?_, Lib.hid (fun k hk => ?_), Lib.hid ?_⟩
            · rcases List.mem_append.1 hp with hp | hp
              · exact HOW.out.2 p hp
              · rw [List.mem_singleton.1 hp]; exact HSS.out
            · have h := HC5.out.1
              simpa [nums] using h
            · have hk : some g5 = some k := hk
              injection hk with hk
              rcases HC5.out.2.2 with e | e
              · have := HFAR.out g5 e; omega
              · have := HBE.out.size; omega
            · have h1 : Below wb.heap.size wr wx := HC.out.below (fun k h => h.elim) HBE.out.size
              exact (HBE.out.trans h1).trans (HC5.out.2.1.below (fun k h => HFAR.out k h) (Nat.le_trans HBE.out.size h1.size))
        · have t1 : decide (xv < 1) = false := decide_eq_false (by omega)
          have t2 : decide (3 < xv) = true := decide_eq_true hs
          go_wp2_with (at_builtin; rw [← HWX.out]; refine wpList_append_lies _ rfl _ _ _ rfl 0 2 i0 _ 1 8 Tryd.underlying26 hi hz0 hz1 hz2 rfl (by omega) (.slice AV on cV) on (nums own) rfl HROW.out ⟨wr.heap.size, 0, none⟩ 1 1 [.int .i64 xv] rfl rfl HNEW.out (by simp [Value.oneCell']) (by omega) (by unfold maxLen; omega) (by omega) (by omega) (wr.heap.size + 1) HSZ.out ?_; intro g5 cap5 w5 hown5 hgrow5 hat5 hlt5; have HC5 := Lib.hid (And.intro hown5 (And.intro (Chg.of_grown hgrow5) hat5)); clear hown5 hgrow5 hat5 hlt5)
          go_roundg (nk + 1 - (j + 1))
          case measure => have := HZ.out; omega
          case rel =>
            refine ⟨j + 1, own ++ [xv], on + 1, by omega, by omega, rfl, by go_num, by omega, ⟨_, _, rfl⟩, Lib.hid ⟨by rw [List.length_append, ← HOW.out.1]; rfl, fun p hp => ?_⟩, Lib.hid ?_, Lib.hid (fun k hk => ?_), Lib.hid ?_⟩
            · rcases List.mem_append.1 hp with hp | hp
              · exact HOW.out.2 p hp
              · rw [List.mem_singleton.1 hp]; exact HSS.out
            · have h := HC5.out.1
              simpa [nums] using h
            · have hk : some g5 = some k := hk
              injection hk with hk
              rcases HC5.out.2.2 with e | e
              · have := HFAR.out g5 e; omega
              · have := HBE.out.size; omega
            · have h1 : Below wb.heap.size wr wx := HC.out.below (fun k h => h.elim) HBE.out.size
              exact (HBE.out.trans h1).trans (HC5.out.2.1.below (fun k h => HFAR.out k h) (Nat.le_trans HBE.out.size h1.size))
      · have t1 : decide (xv < 1) = false := decide_eq_false (fun h => hs (.inl h))
        have t2 : decide (3 < xv) = false := decide_eq_false (fun h => hs (.inr h))
        clear hs hin
        go_wp2_with fail
        go_roundg (nk + 1 - (j + 1))
        case measure => have := HZ.out; omega
        case rel => exact ⟨j + 1, own, on, by omega, by omega, rfl, by go_num, by omega, ⟨_, _, rfl⟩, HOW, HROW0, HFAR, HBE⟩
    · by_cases hjn : j < nk
      · have h2 : ¬ j < 200 := fun h => hlt ⟨hjn, h⟩
        clear hlt
        have y1 := cell_of_block ((Below.chg HBE.out).heap HXB.out (fun x => x)) 0
        simp at y1
        have CF := Lib.hid (tfew_any (HFS.out.1.keep HBR.out) HN.out.2.2)
        go_wp2_with fail
        refine CF.out.mono ?_
        rintro e wc ⟨VF, rfl, hfi, hbc⟩
        obtain ⟨_, AF, cF, rfl⟩ := hfi.bound
        have hsm := tfewv_small HFS.out.2
        have HBC : Hid (Below W.heap.size W wc) := Lib.hid (HBR.out.trans (hbc.mono HBR.out.size))
        have hcc := Below.chg hbc
        have CN := Lib.hid (tnew_any (fs := tfewv fs) (pub := pub) (picks := own) q hfi (HPU.out.keep HBC.out).1 (NumSrc.of_row (l := own) (t := 2) (by rw [← HOW.out.1]; exact ownsRow_kept HROW0.out hcc (fun _ _ x => x))) (by have := HOW.out.1; omega) (by have := hsm.1; omega) (fun f hf => ⟨by have := (hsm.2 f hf).1; omega, (hsm.2 f hf).2.1⟩) HPU.out.2.1 HPU.out.2.2 (fun z hz => (HOW.out.2 z hz).2))
        clear hfi hsm hcc hbc CF y1
        go_wp2_with fail
        refine CN.out.mono ?_
        rintro e wd ⟨m, g0, x, rfl, htc, hlo, hbd⟩
        have hM : TM W wd g0 m (clampc q) 0 x ⟨tfewv fs, pub, own, [], fun _ => none, []⟩ := ⟨htc, tinv_new _ _ _ _, fun k hk => Nat.le_trans HBC.out.size (hlo k hk), HBC.out.trans (hbd.mono HBC.out.size)⟩
        have HM0 := Lib.hid hM
        clear htc hlo hbd hM CN
        go_wp2_with fail
        go_loopg [15] (na + 1) (fun z i wr => ∃ (t np : Nat) (g : Nat → Nat) (T : TS), t ≤ na ∧ t ≤ 100 ∧ z = na + 1 - t ∧ i = .int .i64 t ∧ np ≤ 10 * t ∧ Hid (TM W wr g m (clampc q) np x T) ∧ Hid (Idle T))
        case atStart => exact ⟨0, 0, g0, _, by omega, by omega, rfl, rfl, by omega, HM0, Lib.hid ⟨fun p hp => (HOW.out.2 p hp).1, rfl, rfl⟩⟩
        case round =>
          obtain ⟨t, np, g, T, ht, ht2, hz2, rfl, hnp, HM, HI⟩ := hrel
          have HZ2 := Lib.hid hz2
          clear hz2
          by_cases hlt : t < na ∧ t < 100
          · have htl : t < asks.length := by rw [← HN.out.2.1]; exact hlt.1
            obtain ⟨b, off, rfl, hcs⟩ := HAS.out.2.2 (by omega)
            obtain ⟨A1, d1, A2, d2, k0, k1, _, n1, _⟩ := hcs t asks[t] (List.getElem?_eq_getElem htl)
            obtain ⟨⟨fn, args, oth⟩, hak⟩ : ∃ z, z = asks[t] := ⟨_, rfl⟩
            rw [← hak] at k0 k1 n1
            simp only at k0 k1 n1
            obtain ⟨ln, hln⟩ : ∃ z, z = args.length := ⟨_, rfl⟩
            rw [← hln] at k1
            clear hcs hak
            have h1 := hlt.1
            have h2 := hlt.2
            clear hlt
            obtain ⟨S, hS⟩ : ∃ S : World → Prop, S = fun w' => w'.cell? ⟨b, off + t * 3, none⟩ = some (.int .i64 fn) ∧ w'.cell? ⟨b, off + t * 3 + 1, none⟩ = some (.slice A1 ln d1) := ⟨_, rfl⟩
            have HSA : Hid (∀ w', Below W.heap.size W w' → S w') := Lib.hid (by
              intro w' hb
              rw [hS]
              exact ⟨(Below.chg hb).cell k0 (fun x => x), (Below.chg hb).cell k1 (fun x => x)⟩)
            have HSE := Lib.hid hS
            obtain ⟨wq, hwq⟩ : ∃ z, z = wr.drew := ⟨_, rfl⟩
            have hcd : Chg (fun _ => False) wr wq := by rw [hwq]; exact (Chg.refl _ _).drew
            have hMq := HM.out.kept hcd
            have hSq := HSA.out _ hMq.bel
            obtain ⟨e1, e2⟩ := HI.out.enter (clampc q) fn args
            have hns : NumSrc wq (.slice A1 ln d1) args := by have h := n1.1.keep hMq.bel; rw [← hln] at h; exact h
            have CE : Calls Tryd.prog 9 #[.pointer (some ⟨m, 0, none⟩), .int .i64 fn, .slice A1 ln d1] wq fun e w' => ∃ v, e = .returned v ∧ ∃ A5 c5 g', v = .tuple #[.slice A5 0 c5, .bool false, .int .i64 0] ∧ TM W w' g' m (clampc q) (np + 10) x (enterV (clampc q) T fn args).2 := by
              refine (hMq.enter hns fn (by omega)).mono ?_
              rintro e w' ⟨VB, g', rfl, h1, h2, h3, _, _⟩
              rw [e1] at h1 ⊢
              obtain ⟨_, A5, c5, rfl⟩ := ownsRow_slice h1
              exact ⟨_, rfl, A5, c5, g', rfl, h3⟩
            have HI2 := Lib.hid e2
            clear hS hcd hMq e1 e2 hns n1 k0 k1 hln
            go_upto_region 14 with fail
            refine wp_region_ord (S := S) (N := fun i => true) (by kernel_rfl) [(0, true), (1, true), (2, true), (3, true), (4, true), (5, true), (6, true), (7, true), (8, true), (9, true), (10, true), (11, false), (12, true), (13, true), (14, true), (15, true), (16, true), (17, true), (18, true)] (by kernel_rfl) ?_
            rw [← hwq]
            clear hwq
            iterate 11 (refine ord_look rfl hSq rfl (by intro w hS; rw [HSE.out] at hS; obtain ⟨s1, s2⟩ := hS; go_simp; with_reducible rfl) (fun c a w h => h) ?_; simp only [Act.put, List.setIfInBounds_toArray, List.set_cons_succ, List.set_cons_zero])
            refine ord_act rfl rfl (fun K hK => ?_)
            refine wp_call 9 _ _ Tryd.func9 rfl (by kernel_rfl) _ _ rfl #[.pointer (some ⟨m, 0, none⟩), .int .i64 fn, .slice A1 ln d1] (by simp [Act.eval]) (calls_ret CE (by rintro e w1 ⟨v', rfl, h⟩; exact ⟨_, rfl, h⟩)) ?_
            rintro v we ⟨A5, c5, g', rfl, hMe⟩
            have hSe := HSA.out _ hMe.bel
            refine hK _ _ ⟨fun _ => hSe, ?_⟩
            clear hK K hSq CE
            have HME := Lib.hid hMe
            clear hMe
            try simp only [Act.put, List.setIfInBounds_toArray, List.set_cons_succ, List.set_cons_zero]
            iterate 7 (refine ord_look rfl hSe rfl (by intro w hS; go_simp; with_reducible rfl) (fun c a w h => h) ?_; simp only [Act.put, List.setIfInBounds_toArray, List.set_cons_succ, List.set_cons_zero])
            refine ord_end ?_
            clear hSe
            go_wp2_with fail
            go_roundg (na + 1 - (t + 1))
            case measure => have := HZ2.out; omega
            case rel => exact ⟨t + 1, np + 10, g', _, by omega, by omega, rfl, by go_num, by omega, HME, HI2⟩
          · have CV := Lib.hid (HM.out.events (by omega))
            by_cases hta : t < na
            · have h2 : ¬ t < 100 := fun h => hlt ⟨hta, h⟩
              clear hlt
              go_wp2_with fail
              refine CV.out.mono ?_
              rintro e wz ⟨VE, rfl, hrow, _, hM, _⟩
              rw [HI.out.evs] at hrow
              obtain ⟨_, A7, c7, rfl⟩ := ownsRow_slice hrow
              simp only [List.length_nil]
              have HBZ := Lib.hid hM.bel
              clear hrow hM CV
              go_wp2_with fail
              go_ret
              exact ⟨rfl, HBZ.out⟩
            · clear hlt
              go_wp2_with fail
              refine CV.out.mono ?_
              rintro e wz ⟨VE, rfl, hrow, _, hM, _⟩
              rw [HI.out.evs] at hrow
              obtain ⟨_, A7, c7, rfl⟩ := ownsRow_slice hrow
              simp only [List.length_nil]
              have HBZ := Lib.hid hM.bel
              clear hrow hM CV
              go_wp2_with fail
              go_ret
              exact ⟨rfl, HBZ.out⟩
      · clear hlt
        have y1 := cell_of_block ((Below.chg HBE.out).heap HXB.out (fun x => x)) 0
        simp at y1
        have CF := Lib.hid (tfew_any (HFS.out.1.keep HBR.out) HN.out.2.2)
        go_wp2_with fail
        refine CF.out.mono ?_
        rintro e wc ⟨VF, rfl, hfi, hbc⟩
        obtain ⟨_, AF, cF, rfl⟩ := hfi.bound
        have hsm := tfewv_small HFS.out.2
        have HBC : Hid (Below W.heap.size W wc) := Lib.hid (HBR.out.trans (hbc.mono HBR.out.size))
        have hcc := Below.chg hbc
        have CN := Lib.hid (tnew_any (fs := tfewv fs) (pub := pub) (picks := own) q hfi (HPU.out.keep HBC.out).1 (NumSrc.of_row (l := own) (t := 2) (by rw [← HOW.out.1]; exact ownsRow_kept HROW0.out hcc (fun _ _ x => x))) (by have := HOW.out.1; omega) (by have := hsm.1; omega) (fun f hf => ⟨by have := (hsm.2 f hf).1; omega, (hsm.2 f hf).2.1⟩) HPU.out.2.1 HPU.out.2.2 (fun z hz => (HOW.out.2 z hz).2))
        clear hfi hsm hcc hbc CF y1
        go_wp2_with fail
        refine CN.out.mono ?_
        rintro e wd ⟨m, g0, x, rfl, htc, hlo, hbd⟩
        have hM : TM W wd g0 m (clampc q) 0 x ⟨tfewv fs, pub, own, [], fun _ => none, []⟩ := ⟨htc, tinv_new _ _ _ _, fun k hk => Nat.le_trans HBC.out.size (hlo k hk), HBC.out.trans (hbd.mono HBC.out.size)⟩
        have HM0 := Lib.hid hM
        clear htc hlo hbd hM CN
        go_wp2_with fail
        go_loopg [15] (na + 1) (fun z i wr => ∃ (t np : Nat) (g : Nat → Nat) (T : TS), t ≤ na ∧ t ≤ 100 ∧ z = na + 1 - t ∧ i = .int .i64 t ∧ np ≤ 10 * t ∧ Hid (TM W wr g m (clampc q) np x T) ∧ Hid (Idle T))
        case atStart => exact ⟨0, 0, g0, _, by omega, by omega, rfl, rfl, by omega, HM0, Lib.hid ⟨fun p hp => (HOW.out.2 p hp).1, rfl, rfl⟩⟩
        case round =>
          obtain ⟨t, np, g, T, ht, ht2, hz2, rfl, hnp, HM, HI⟩ := hrel
          have HZ2 := Lib.hid hz2
          clear hz2
          by_cases hlt : t < na ∧ t < 100
          · have htl : t < asks.length := by rw [← HN.out.2.1]; exact hlt.1
            obtain ⟨b, off, rfl, hcs⟩ := HAS.out.2.2 (by omega)
            obtain ⟨A1, d1, A2, d2, k0, k1, _, n1, _⟩ := hcs t asks[t] (List.getElem?_eq_getElem htl)
            obtain ⟨⟨fn, args, oth⟩, hak⟩ : ∃ z, z = asks[t] := ⟨_, rfl⟩
            rw [← hak] at k0 k1 n1
            simp only at k0 k1 n1
            obtain ⟨ln, hln⟩ : ∃ z, z = args.length := ⟨_, rfl⟩
            rw [← hln] at k1
            clear hcs hak
            have h1 := hlt.1
            have h2 := hlt.2
            clear hlt
            obtain ⟨S, hS⟩ : ∃ S : World → Prop, S = fun w' => w'.cell? ⟨b, off + t * 3, none⟩ = some (.int .i64 fn) ∧ w'.cell? ⟨b, off + t * 3 + 1, none⟩ = some (.slice A1 ln d1) := ⟨_, rfl⟩
            have HSA : Hid (∀ w', Below W.heap.size W w' → S w') := Lib.hid (by
              intro w' hb
              rw [hS]
              exact ⟨(Below.chg hb).cell k0 (fun x => x), (Below.chg hb).cell k1 (fun x => x)⟩)
            have HSE := Lib.hid hS
            obtain ⟨wq, hwq⟩ : ∃ z, z = wr.drew := ⟨_, rfl⟩
            have hcd : Chg (fun _ => False) wr wq := by rw [hwq]; exact (Chg.refl _ _).drew
            have hMq := HM.out.kept hcd
            have hSq := HSA.out _ hMq.bel
            obtain ⟨e1, e2⟩ := HI.out.enter (clampc q) fn args
            have hns : NumSrc wq (.slice A1 ln d1) args := by have h := n1.1.keep hMq.bel; rw [← hln] at h; exact h
            have CE : Calls Tryd.prog 9 #[.pointer (some ⟨m, 0, none⟩), .int .i64 fn, .slice A1 ln d1] wq fun e w' => ∃ v, e = .returned v ∧ ∃ A5 c5 g', v = .tuple #[.slice A5 0 c5, .bool false, .int .i64 0] ∧ TM W w' g' m (clampc q) (np + 10) x (enterV (clampc q) T fn args).2 := by
              refine (hMq.enter hns fn (by omega)).mono ?_
              rintro e w' ⟨VB, g', rfl, h1, h2, h3, _, _⟩
              rw [e1] at h1 ⊢
              obtain ⟨_, A5, c5, rfl⟩ := ownsRow_slice h1
              exact ⟨_, rfl, A5, c5, g', rfl, h3⟩
            have HI2 := Lib.hid e2
            clear hS hcd hMq e1 e2 hns n1 k0 k1 hln
            go_upto_region 14 with fail
            refine wp_region_ord (S := S) (N := fun i => true) (by kernel_rfl) [(0, true), (1, true), (2, true), (3, true), (4, true), (5, true), (6, true), (7, true), (8, true), (9, true), (10, true), (11, false), (12, true), (13, true), (14, true), (15, true), (16, true), (17, true), (18, true)] (by kernel_rfl) ?_
            rw [← hwq]
            clear hwq
            iterate 11 (refine ord_look rfl hSq rfl (by intro w hS; rw [HSE.out] at hS; obtain ⟨s1, s2⟩ := hS; go_simp; with_reducible rfl) (fun c a w h => h) ?_; simp only [Act.put, List.setIfInBounds_toArray, List.set_cons_succ, List.set_cons_zero])
            refine ord_act rfl rfl (fun K hK => ?_)
            refine wp_call 9 _ _ Tryd.func9 rfl (by kernel_rfl) _ _ rfl #[.pointer (some ⟨m, 0, none⟩), .int .i64 fn, .slice A1 ln d1] (by simp [Act.eval]) (calls_ret CE (by rintro e w1 ⟨v', rfl, h⟩; exact ⟨_, rfl, h⟩)) ?_
            rintro v we ⟨A5, c5, g', rfl, hMe⟩
            have hSe := HSA.out _ hMe.bel
            refine hK _ _ ⟨fun _ => hSe, ?_⟩
            clear hK K hSq CE
            have HME := Lib.hid hMe
            clear hMe
            try simp only [Act.put, List.setIfInBounds_toArray, List.set_cons_succ, List.set_cons_zero]
            iterate 7 (refine ord_look rfl hSe rfl (by intro w hS; go_simp; with_reducible rfl) (fun c a w h => h) ?_; simp only [Act.put, List.setIfInBounds_toArray, List.set_cons_succ, List.set_cons_zero])
            refine ord_end ?_
            clear hSe
            go_wp2_with fail
            go_roundg (na + 1 - (t + 1))
            case measure => have := HZ2.out; omega
            case rel => exact ⟨t + 1, np + 10, g', _, by omega, by omega, rfl, by go_num, by omega, HME, HI2⟩
          · have CV := Lib.hid (HM.out.events (by omega))
            by_cases hta : t < na
            · have h2 : ¬ t < 100 := fun h => hlt ⟨hta, h⟩
              clear hlt
              go_wp2_with fail
              refine CV.out.mono ?_
              rintro e wz ⟨VE, rfl, hrow, _, hM, _⟩
              rw [HI.out.evs] at hrow
              obtain ⟨_, A7, c7, rfl⟩ := ownsRow_slice hrow
              simp only [List.length_nil]
              have HBZ := Lib.hid hM.bel
              clear hrow hM CV
              go_wp2_with fail
              go_ret
              exact ⟨rfl, HBZ.out⟩
            · clear hlt
              go_wp2_with fail
              refine CV.out.mono ?_
              rintro e wz ⟨VE, rfl, hrow, _, hM, _⟩
              rw [HI.out.evs] at hrow
              obtain ⟨_, A7, c7, rfl⟩ := ownsRow_slice hrow
              simp only [List.length_nil]
              have HBZ := Lib.hid hM.bel
              clear hrow hM CV
              go_wp2_with fail
              go_ret
              exact ⟨rfl, HBZ.out⟩
end Go.Proofs.YtgiegkacilfofaaDoor
