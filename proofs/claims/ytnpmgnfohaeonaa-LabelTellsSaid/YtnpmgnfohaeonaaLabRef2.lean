/- The document's labels: exprs. -/
import Derived.Test.YtnpmgnfohaeonaaLabRef
namespace Go.Proofs.Ytnpmgnfohaeonaa
set_option linter.unusedVariables false
set_option linter.unusedSimpArgs false
open Go.RowKit

theorem isExpr_inv {w : World} {X : Nat → Prop} {t : ExprT} {op n : Int} {name : ByteArray} {B : Option Addr} {lc cc : Nat} (h : IsExpr w X t [.int .i64 op, .int .i64 n, .string name, .slice B lc cc]) : ∃ l, t = .mk op n name l ∧ lc = l.length ∧ Exprs w X B cc l := by
  cases h with
  | mk op n name l A c f hs hr h => exact ⟨l, rfl, rfl, f, hr, h⟩
theorem size_list {l : List ExprT} {op n : Int} {name : ByteArray} {l' : List ExprT} (h : ExprT.mk op n name l' ∈ l) : SizeOf.sizeOf l' < SizeOf.sizeOf l := by
  have := List.sizeOf_lt_of_mem h
  simp only [ExprT.mk.sizeOf_spec] at this
  omega

theorem callv_mono (ps : List ByteArray) (l : List ExprT) (a b : Nat) (h : a ≤ b) (ht : callv ps l a = true) : callv ps l b = true := by
  induction b with
  | zero => obtain rfl : a = 0 := by omega
            exact ht
  | succ b ih =>
    by_cases e : a = b + 1
    · subst e; exact ht
    · unfold callv; rw [ih (by omega)]; rfl

set_option maxHeartbeats 8000000 in
set_option maxRecDepth 100000 in
theorem rexprs_any (k : Nat) : ∀ (l : List ExprT), SizeOf.sizeOf l < k → ∀ (w : World) (X : Nat → Prop) (FA B A : Option Addr) (fc kb cb c : Nat) (fs : List FuncT), Funcs w X FA fc fs → Exprs w X A c l →
    Calls Try.prog 33 #[.agg #[.slice FA fs.length fc, .slice B kb cb], .slice A l.length c] w fun e w' => e = .returned (.bool (l.any (tellE (prms fs)))) ∧ Below w.heap.size w w' := by
  induction k with
  | zero => intro l h; omega
  | succ k ih =>
    intro l hk w X FA B A fc kb cb c fs hF hE
    have hmx : l.length ≤ 8796093022208 := by obtain ⟨f, h1, _⟩ := hE; exact h1.max
    have hb0 : Below w.heap.size w (w.alloc (.cells #[.slice FA fs.length fc, .slice B kb cb] 25)) := (Below.refl _ _).alloc (Nat.le_refl _) _
    have hF0 := hF.kept (Below.chg hb0) (fun _ _ x => x)
    have hE0 := hE.keep hb0
    have hsb : (w.alloc (.cells #[.slice FA fs.length fc, .slice B kb cb] 25)).heap[w.heap.size]? = some (.cells #[.slice FA fs.length fc, .slice B kb cb] 25 (0, 0)) := heap_new _ _
    have HF := Lib.hid hF0
    have HE := Lib.hid hE0
    have HB0 := Lib.hid hb0
    have HSB := Lib.hid hsb
    have HIH : Hid (∀ l', SizeOf.sizeOf l' < SizeOf.sizeOf l → ∀ (w : World) (A : Option Addr) (c : Nat), Funcs w X FA fc fs → Exprs w X A c l' → Calls Try.prog 33 #[.agg #[.slice FA fs.length fc, .slice B kb cb], .slice A l'.length c] w fun e w' => e = .returned (.bool (l'.any (tellE (prms fs)))) ∧ Below w.heap.size w w') := Lib.hid (fun l' hl' w A c hF hE => ih l' (by omega) w X FA B A fc kb cb c fs hF hE)
    clear ih hk hF hE hF0 hE0 hb0 hsb
    obtain ⟨ra, hra⟩ : ∃ ra, l.any (tellE (prms fs)) = ra := ⟨_, rfl⟩
    rw [hra]
    have HRA := Lib.hid hra
    clear hra
    obtain ⟨m, hm⟩ : ∃ m, m = l.length := ⟨_, rfl⟩
    rw [← hm] at hmx ⊢
    have HM := Lib.hid hm
    clear hm
    obtain ⟨fl, hfl⟩ : ∃ fl, fl = fs.length := ⟨_, rfl⟩
    rw [← hfl] at HSB HB0 HF HE HIH ⊢
    have HFL := Lib.hid hfl
    clear hfl
    go_enter Try.func33, Try.ntmps33
    go_wp2_with fail
    generalize (w.alloc (.cells #[.slice FA fl fc, .slice B kb cb] 25)) = wa at *
    go_loopg [5] m (fun k v wr => ∃ j : Nat, j ≤ m ∧ k = m - j ∧ v = .int .i64 j ∧ Hid ((l.take j).any (tellE (prms fs)) = false) ∧ Hid (Below wa.heap.size wa wr))
    case atStart => exact ⟨0, by omega, rfl, rfl, Lib.hid rfl, Lib.hid (Below.refl _ _)⟩
    case round =>
      obtain ⟨j, hj, hk2, rfl, HT, HB⟩ := hrel
      have HK := Lib.hid hk2
      clear hk2
      by_cases hlt : j < m
      · have hjl : j < l.length := by rw [← HM.out]; exact hlt
        obtain ⟨b, off, op, n2, name, B2, lc, cc, rfl, hie, hc⟩ := HE.out.get j hjl
        obtain ⟨q0, q1, q2, q3⟩ := hc wr HB.out
        have htk := List.take_succ_eq_append_getElem hjl
        have hmem : l[j] ∈ l := List.getElem_mem _
        obtain ⟨x, hx⟩ : ∃ x, l[j] = x := ⟨_, rfl⟩
        rw [hx] at hie htk hmem
        have hns : name.size ≤ 140737488351232 := by cases hie; assumption
        obtain ⟨l', rfl, rfl, hEx⟩ := isExpr_inv hie
        have hsz := size_list hmem
        obtain ⟨we, hwe⟩ : ∃ we, we = wr.alloc (.cells #[.int .i64 op, .int .i64 n2, .string name, .slice B2 l'.length cc] 28) := ⟨_, rfl⟩
        have hbe : Below wa.heap.size wa we := by rw [hwe]; exact HB.out.alloc HB.out.size _
        have hse : we.heap[wr.heap.size]? = some (.cells #[.int .i64 op, .int .i64 n2, .string name, .slice B2 l'.length cc] 28 (0, 0)) := by rw [hwe]; exact heap_new _ _
        have HBwe := Lib.hid hbe
        have HSE : Hid (∀ wx, Below we.heap.size we wx → wx.cell? ⟨wr.heap.size, 0, none⟩ = some (.int .i64 op) ∧ wx.cell? ⟨wr.heap.size, 2, none⟩ = some (.string name) ∧ wx.cell? ⟨wr.heap.size, 3, none⟩ = some (.slice B2 l'.length cc) ∧ wx.cell? ⟨w.heap.size, 0, none⟩ = some (.slice FA fl fc) ∧ wx.cell? ⟨w.heap.size, 1, none⟩ = some (.slice B kb cb)) := Lib.hid (fun wx hb => by
          have h1 := (Below.chg hb).heap hse (fun x => x)
          have h2 := (Below.chg hb).heap ((Below.chg hbe).heap HSB.out (fun x => x)) (fun x => x)
          exact ⟨cell_of_block h1 0, cell_of_block h1 2, cell_of_block h1 3, cell_of_block h2 0, cell_of_block h2 1⟩)
        have CI : Hid (Calls Try.prog 33 #[.agg #[.slice FA fl fc, .slice B kb cb], .slice B2 l'.length cc] we fun e w' => e = .returned (.bool (l'.any (tellE (prms fs)))) ∧ Below we.heap.size we w') := Lib.hid (HIH.out l' hsz we B2 cc (HF.out.kept (Below.chg hbe) (fun _ _ x => x)) (hEx.keep hbe))
        have CP : Hid (∀ wx, Below we.heap.size we wx → ∀ i : Nat, i ≤ 8796093022208 → Calls Try.prog 32 #[.slice B2 l'.length cc, .int .i64 i] wx fun e w' => e = .returned (.bool (leaksv l' i)) ∧ Below wx.heap.size wx w') := Lib.hid (fun wx hb i hi => rpart_any ((hEx.keep hbe).keep hb) i hi)
        have CF : Hid (∀ wx, Below we.heap.size we wx → Calls Try.prog 35 #[.agg #[.slice FA fl fc, .slice B kb cb], .string name] wx fun e w' => (∃ PA pc, e = .returned (.slice PA (prms fs name).length pc) ∧ Strs w' X PA pc (prms fs name)) ∧ Below wx.heap.size wx w') := Lib.hid (fun wx hb => by
          have := rfind_any (B := B) (kb := kb) (cb := cb) (((HF.out.kept (Below.chg hbe) (fun _ _ x => x))).kept (Below.chg hb) (fun _ _ x => x)) name
          rw [← HFL.out] at this
          exact this)
        have HTE : Hid (tellE (prms fs) (.mk op n2 name l') = (ownE (prms fs) op name l' || l'.any (tellE (prms fs)))) := Lib.hid (tellE_eq _ _ _ _ _)
        have HTK := Lib.hid htk
        obtain ⟨g0, g2, g3, p0, p1⟩ := HSE.out we (Below.refl _ _)
        obtain ⟨r1, hr1⟩ : ∃ r1, l'.any (tellE (prms fs)) = r1 := ⟨_, rfl⟩
        rw [hr1] at CI HTE
        obtain ⟨r2, hr2⟩ : ∃ r2, leaksv l' 0 = r2 := ⟨_, rfl⟩
        obtain ⟨r3, hr3⟩ : ∃ r3, leaksv l' 1 = r3 := ⟨_, rfl⟩
        have HR2 := Lib.hid hr2
        have HR3 := Lib.hid hr3
        clear hc htk hmem hx hie hEx hsz hbe hse hjl hr1 hr2 hr3
        generalize l'.length = lc at *
        go_upto_region 5 with fail
        rw [← hwe]
        clear hwe q0 q1 q2 q3
        go_wp2_with fail
        refine CI.out.mono ?_; rintro e w1 ⟨rfl, hb1⟩
        clear g0 g2 g3 p0 p1
        cases r1 with
        | true =>
          go_wp2_with fail
          go_ret
          refine ⟨?_, HB0.out.trans ((bel_trans HBwe.out hb1).mono HB0.out.size)⟩
          have : l.any (tellE (prms fs)) = true := by
            have : l = l.take (j + 1) ++ l.drop (j + 1) := (List.take_append_drop _ _).symm
            rw [this, List.any_append, HTK.out, List.any_append, HT.out]
            simp only [List.any_cons, List.any_nil, Bool.or_false, Bool.false_or, Bool.or_eq_true]
            refine .inl ?_
            rw [HTE.out]
            simp
          rw [HRA.out] at this
          rw [this]
          rfl
        | false =>
          obtain ⟨g0, g2, g3, p0, p1⟩ := HSE.out w1 hb1
          go_wp2_with fail
          refine (CP.out _ hb1 0 (by decide)).mono ?_; rintro e w2 ⟨rfl, hb2⟩
          rw [HR2.out]
          have hb2' := bel_trans hb1 hb2
          clear g0 g2 g3 p0 p1 hb1 hb2
          obtain ⟨g0, g2, g3, p0, p1⟩ := HSE.out w2 hb2'
          go_wp2_with fail
          refine (CP.out _ hb2' 1 (by decide)).mono ?_; rintro e w3 ⟨rfl, hb3⟩
          rw [HR3.out]
          have hb3' := bel_trans hb2' hb3
          clear g0 g2 g3 p0 p1 hb2' hb3
          obtain ⟨g0, g2, g3, p0, p1⟩ := HSE.out w3 hb3'
          have hcs : op = 4 ∨ op = 11 ∨ op = 12 ∨ op = 5 ∨ (¬ op = 4 ∧ ¬ op = 11 ∧ ¬ op = 12 ∧ ¬ op = 5) := by omega
          rcases hcs with rfl | rfl | rfl | rfl | ⟨h4, h11, h12, h5⟩
          · cases r2 with
            | true =>
              go_wp2_with fail
              go_ret
              refine ⟨?_, HB0.out.trans ((bel_trans HBwe.out hb3').mono HB0.out.size)⟩
              have : l.any (tellE (prms fs)) = true := by
                have : l = l.take (j + 1) ++ l.drop (j + 1) := (List.take_append_drop _ _).symm
                rw [this, List.any_append, HTK.out, List.any_append, HT.out]
                simp only [List.any_cons, List.any_nil, Bool.or_false, Bool.false_or, Bool.or_eq_true]
                refine .inl ?_
                rw [HTE.out]
                unfold ownE; rw [if_pos rfl, HR2.out]; rfl
              rw [HRA.out] at this
              rw [this]
              rfl
            | false =>
              go_wp2_with fail
              go_roundg (m - (j + 1))
              case measure => have := HK.out; omega
              case rel => exact ⟨j + 1, by omega, rfl, by go_num, Lib.hid (by rw [HTK.out, List.any_append, HT.out]; simp only [List.any_cons, List.any_nil, Bool.or_false, Bool.false_or]; rw [HTE.out]; unfold ownE; rw [if_pos rfl, HR2.out]; rfl), Lib.hid (bel_trans HBwe.out hb3')⟩
          · cases r3 with
            | true =>
              go_wp2_with fail
              go_ret
              refine ⟨?_, HB0.out.trans ((bel_trans HBwe.out hb3').mono HB0.out.size)⟩
              have : l.any (tellE (prms fs)) = true := by
                have : l = l.take (j + 1) ++ l.drop (j + 1) := (List.take_append_drop _ _).symm
                rw [this, List.any_append, HTK.out, List.any_append, HT.out]
                simp only [List.any_cons, List.any_nil, Bool.or_false, Bool.false_or, Bool.or_eq_true]
                refine .inl ?_
                rw [HTE.out]
                unfold ownE; rw [if_neg (by decide), if_pos (by decide), HR3.out]; rfl
              rw [HRA.out] at this
              rw [this]
              rfl
            | false =>
              go_wp2_with fail
              go_roundg (m - (j + 1))
              case measure => have := HK.out; omega
              case rel => exact ⟨j + 1, by omega, rfl, by go_num, Lib.hid (by rw [HTK.out, List.any_append, HT.out]; simp only [List.any_cons, List.any_nil, Bool.or_false, Bool.false_or]; rw [HTE.out]; unfold ownE; rw [if_neg (by decide), if_pos (by decide), HR3.out]; rfl), Lib.hid (bel_trans HBwe.out hb3')⟩
          · cases r3 with
            | true =>
              go_wp2_with fail
              go_ret
              refine ⟨?_, HB0.out.trans ((bel_trans HBwe.out hb3').mono HB0.out.size)⟩
              have : l.any (tellE (prms fs)) = true := by
                have : l = l.take (j + 1) ++ l.drop (j + 1) := (List.take_append_drop _ _).symm
                rw [this, List.any_append, HTK.out, List.any_append, HT.out]
                simp only [List.any_cons, List.any_nil, Bool.or_false, Bool.false_or, Bool.or_eq_true]
                refine .inl ?_
                rw [HTE.out]
                unfold ownE; rw [if_neg (by decide), if_pos (by decide), HR3.out]; rfl
              rw [HRA.out] at this
              rw [this]
              rfl
            | false =>
              go_wp2_with fail
              go_roundg (m - (j + 1))
              case measure => have := HK.out; omega
              case rel => exact ⟨j + 1, by omega, rfl, by go_num, Lib.hid (by rw [HTK.out, List.any_append, HT.out]; simp only [List.any_cons, List.any_nil, Bool.or_false, Bool.false_or]; rw [HTE.out]; unfold ownE; rw [if_neg (by decide), if_pos (by decide), HR3.out]; rfl), Lib.hid (bel_trans HBwe.out hb3')⟩
          · go_wp2_with fail
            refine (CF.out _ hb3').mono ?_; rintro e w4 ⟨⟨PA, pc, rfl, hst⟩, hb4⟩
            have hmp := hst.1.max
            have HST := Lib.hid hst
            have HW4 := Lib.hid (bel_trans hb3' hb4)
            clear g0 g2 g3 p0 p1 hb3' hb4 hst
            have HOW : Hid (ownE (prms fs) 5 name l' = callv (prms fs name) l' (prms fs name).length) := Lib.hid rfl
            obtain ⟨ps, hps⟩ : ∃ ps, prms fs name = ps := ⟨_, rfl⟩
            rw [hps] at HST HOW hmp ⊢
            clear hps
            obtain ⟨np, hnp⟩ : ∃ np, np = ps.length := ⟨_, rfl⟩
            rw [← hnp] at HOW hmp ⊢
            have HNP := Lib.hid hnp
            clear hnp
            go_wp2_with fail
            go_loopg [11] np (fun k v wx => ∃ u : Nat, u ≤ np ∧ k = np - u ∧ v = .int .i64 u ∧ Hid (callv ps l' u = false) ∧ Hid (Below w4.heap.size w4 wx))
            case atStart => exact ⟨0, by omega, rfl, rfl, Lib.hid rfl, Lib.hid (Below.refl _ _)⟩
            case round =>
              obtain ⟨u, hu, hk3, rfl, HCV, HBU⟩ := hrel
              have HK3 := Lib.hid hk3
              clear hk3
              have hbu := bel_trans HW4.out HBU.out
              obtain ⟨g0, g2, g3, p0, p1⟩ := HSE.out _ hbu
              by_cases hul : u < np
              · obtain ⟨bs, os, rfl, hcs⟩ := HST.out.get u (by rw [← HNP.out]; exact hul)
                have hgd : ps.getD u ByteArray.empty = ps[u]'(by rw [← HNP.out]; exact hul) := by rw [List.getD_eq_getElem?_getD, List.getElem?_eq_getElem (by rw [← HNP.out]; exact hul)]; rfl
                rw [← hgd] at hcs
                obtain ⟨q, hq⟩ : ∃ q, ps.getD u ByteArray.empty = q := ⟨_, rfl⟩
                have HCS : Hid (callv ps l' (u + 1) = (callv ps l' u || (!great q && leaksv l' u))) := Lib.hid (by rw [← hq]; rfl)
                rw [hq] at hcs
                have HCC := Lib.hid hcs
                clear hgd hq hcs
                go_wp2_with fail
                refine (CP.out _ hbu u (by omega)).mono ?_; rintro e w5 ⟨rfl, hb5⟩
                have hd := HCC.out w5 (bel_trans HBU.out hb5)
                clear g0 g2 g3 p0 p1
                obtain ⟨r4, hr4⟩ : ∃ r4, leaksv l' u = r4 := ⟨_, rfl⟩
                rw [hr4] at HCS ⊢
                clear hr4
                go_wp2_with fail
                refine (rgreat_any _ _).mono ?_; rintro e w6 ⟨rfl, rfl⟩
                obtain ⟨g, hg⟩ : ∃ g, great q = g := ⟨_, rfl⟩
                rw [hg] at HCS ⊢
                clear hg
                have hb5' := bel_trans HBU.out hb5
                have hbl := bel_trans HW4.out hb5'
                cases r4 with
                | false =>
                  go_wp2_with fail
                  go_roundg (np - (u + 1))
                  case measure => have := HK3.out; omega
                  case rel => exact ⟨u + 1, by omega, rfl, by go_num, Lib.hid (by rw [HCS.out, HCV.out]; simp), Lib.hid hb5'⟩
                | true =>
                  cases g with
                  | true =>
                    go_wp2_with fail
                    go_roundg (np - (u + 1))
                    case measure => have := HK3.out; omega
                    case rel => exact ⟨u + 1, by omega, rfl, by go_num, Lib.hid (by rw [HCS.out, HCV.out]; simp), Lib.hid hb5'⟩
                  | false =>
                    have hcv : callv ps l' np = true := callv_mono ps l' (u + 1) np (by omega) (by rw [HCS.out]; simp)
                    have HCT := Lib.hid hcv
                    clear hcv
                    go_wp2_with fail
                    go_ret
                    refine ⟨?_, HB0.out.trans ((bel_trans HBwe.out hbl).mono HB0.out.size)⟩
                    have : l.any (tellE (prms fs)) = true := by
                      have : l = l.take (j + 1) ++ l.drop (j + 1) := (List.take_append_drop _ _).symm
                      rw [this, List.any_append, HTK.out, List.any_append, HT.out]
                      simp only [List.any_cons, List.any_nil, Bool.or_false, Bool.false_or, Bool.or_eq_true]
                      refine .inl ?_
                      rw [HTE.out]
                      rw [HOW.out, HCT.out]; rfl
                    rw [HRA.out] at this
                    rw [this]
                    rfl
              · obtain rfl : u = np := by omega
                clear g0 g2 g3 p0 p1
                go_wp2_with fail
                go_roundg (m - (j + 1))
                case measure => have := HK.out; omega
                case rel => exact ⟨j + 1, by omega, rfl, by go_num, Lib.hid (by rw [HTK.out, List.any_append, HT.out]; simp only [List.any_cons, List.any_nil, Bool.or_false, Bool.false_or]; rw [HTE.out]; rw [HOW.out, HCV.out]; rfl), Lib.hid (bel_trans HBwe.out hbu)⟩
          · have e4 : (op == 4) = false := beq_eq_false_iff_ne.2 h4
            have e11 : (op == 11) = false := beq_eq_false_iff_ne.2 h11
            have e12 : (op == 12) = false := beq_eq_false_iff_ne.2 h12
            have e5 : (op == 5) = false := beq_eq_false_iff_ne.2 h5
            go_wp2_with fail
            go_roundg (m - (j + 1))
            case measure => have := HK.out; omega
            case rel => exact ⟨j + 1, by omega, rfl, by go_num, Lib.hid (by rw [HTK.out, List.any_append, HT.out]; simp only [List.any_cons, List.any_nil, Bool.or_false, Bool.false_or]; rw [HTE.out]; unfold ownE; rw [if_neg h4, if_neg (by omega), if_neg h5]; rfl), Lib.hid (bel_trans HBwe.out hb3')⟩
      · have hjn : j = l.length := by rw [← HM.out]; omega
        go_wp2_with fail
        go_ret
        refine ⟨?_, HB0.out.trans (HB.out.mono HB0.out.size)⟩
        have h := HT.out
        rw [hjn, List.take_length, HRA.out] at h
        rw [h]
        rfl
end Go.Proofs.Ytnpmgnfohaeonaa
