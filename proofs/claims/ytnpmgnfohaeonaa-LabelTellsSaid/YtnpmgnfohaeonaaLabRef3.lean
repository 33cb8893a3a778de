/- The document's labels: stmts, Check. -/
import Derived.Test.YtnpmgnfohaeonaaLabRef2
import Derived.Test.YtnpmgnfohaeonaaOrd
namespace Go.Proofs.Ytnpmgnfohaeonaa
set_option linter.unusedVariables false
set_option linter.unusedSimpArgs false
open Go.RowKit

theorem isStmt_inv {w : World} {X : Nat → Prop} {t : StmtT} {op n : Int} {name : ByteArray} {A B E : Option Addr} {la c lb cb le ce : Nat} (h : IsStmt w X t [.int .i64 op, .string name, .int .i64 n, .slice A la c, .slice B lb cb, .slice E le ce]) :
    ∃ l body els, t = .mk op name n l body els ∧ la = l.length ∧ lb = body.length ∧ le = els.length ∧ Exprs w X A c l ∧ Stmts w X B cb body ∧ Stmts w X E ce els := by
  cases h with
  | mk op name n l body els A B E c cb ce f fb fe hs hr h hrb hb hre he => exact ⟨l, body, els, rfl, rfl, rfl, rfl, ⟨f, hr, h⟩, ⟨fb, hrb, hb⟩, ⟨fe, hre, he⟩⟩
theorem size_listS {l : List StmtT} {op n : Int} {name : ByteArray} {l' : List ExprT} {body els : List StmtT} (h : StmtT.mk op name n l' body els ∈ l) : SizeOf.sizeOf body < SizeOf.sizeOf l ∧ SizeOf.sizeOf els < SizeOf.sizeOf l := by
  have := List.sizeOf_lt_of_mem h
  simp only [StmtT.mk.sizeOf_spec] at this
  omega

set_option maxHeartbeats 8000000 in
set_option maxRecDepth 100000 in
theorem rstmts_any (k : Nat) : ∀ (l : List StmtT), SizeOf.sizeOf l < k → ∀ (w : World) (X : Nat → Prop) (FA B A : Option Addr) (fc kb cb c fl : Nat) (fs : List FuncT) (pub : Bool), fl = fs.length → Funcs w X FA fc fs → Stmts w X A c l →
    Calls Try.prog 24 #[.agg #[.slice FA fl fc, .slice B kb cb], .slice A l.length c, .bool pub] w fun e w' => e = .returned (.bool (l.any (tellS (prms fs) pub))) ∧ Below w.heap.size w w' := by
  induction k with
  | zero => intro l h; omega
  | succ k ih =>
    intro l hk w X FA B A fc kb cb c fl fs pub hfl hF hE
    have hmx : l.length ≤ 8796093022208 := by obtain ⟨f, h1, _⟩ := hE; exact h1.max
    have hb0 : Below w.heap.size w (w.alloc (.cells #[.slice FA fl fc, .slice B kb cb] 25)) := (Below.refl _ _).alloc (Nat.le_refl _) _
    have hF0 := hF.kept (Below.chg hb0) (fun _ _ x => x)
    have hE0 := hE.keep hb0
    have hsb : (w.alloc (.cells #[.slice FA fl fc, .slice B kb cb] 25)).heap[w.heap.size]? = some (.cells #[.slice FA fl fc, .slice B kb cb] 25 (0, 0)) := heap_new _ _
    have HF := Lib.hid hF0
    have HE := Lib.hid hE0
    have HB0 := Lib.hid hb0
    have HSB := Lib.hid hsb
    have HFL := Lib.hid hfl
    have HIH : Hid (∀ l', SizeOf.sizeOf l' < SizeOf.sizeOf l → ∀ (w : World) (A : Option Addr) (c : Nat), Funcs w X FA fc fs → Stmts w X A c l' → Calls Try.prog 24 #[.agg #[.slice FA fl fc, .slice B kb cb], .slice A l'.length c, .bool pub] w fun e w' => e = .returned (.bool (l'.any (tellS (prms fs) pub))) ∧ Below w.heap.size w w') := Lib.hid (fun l' hl' w A c hF hE => ih l' (by omega) w X FA B A fc kb cb c fl fs pub hfl hF hE)
    clear ih hk hF hE hF0 hE0 hb0 hsb hfl
    obtain ⟨ra, hra⟩ : ∃ ra, l.any (tellS (prms fs) pub) = ra := ⟨_, rfl⟩
    rw [hra]
    have HRA := Lib.hid hra
    clear hra
    obtain ⟨m, hm⟩ : ∃ m, m = l.length := ⟨_, rfl⟩
    rw [← hm] at hmx ⊢
    have HM := Lib.hid hm
    clear hm
    go_enter Try.func24, Try.ntmps24
    go_wp2_with fail
    generalize (w.alloc (.cells #[.slice FA fl fc, .slice B kb cb] 25)) = wa at *
    go_loopg [7] m (fun k v wr => ∃ j : Nat, j ≤ m ∧ k = m - j ∧ v = .int .i64 j ∧ Hid ((l.take j).any (tellS (prms fs) pub) = false) ∧ Hid (Below wa.heap.size wa wr))
    case atStart => exact ⟨0, by omega, rfl, rfl, Lib.hid rfl, Lib.hid (Below.refl _ _)⟩
    case round =>
      obtain ⟨j, hj, hk2, rfl, HT, HB⟩ := hrel
      have HK := Lib.hid hk2
      clear hk2
      by_cases hlt : j < m
      · have hjl : j < l.length := by rw [← HM.out]; exact hlt
        obtain ⟨b, off, op, name, n2, A2, lc, cc, B2, lb, cb2, E2, le, ce, rfl, hie, hc⟩ := HE.out.get j hjl
        obtain ⟨q0, q1, q2, q3, q4, q5⟩ := hc wr HB.out
        have htk := List.take_succ_eq_append_getElem hjl
        have hmem : l[j] ∈ l := List.getElem_mem _
        obtain ⟨x, hx⟩ : ∃ x, l[j] = x := ⟨_, rfl⟩
        rw [hx] at hie htk hmem
        obtain ⟨l', body, els, rfl, hlc, hlb, hle, hEx, hBo, hEl⟩ := isStmt_inv hie
        obtain ⟨hz1, hz2⟩ := size_listS hmem
        obtain ⟨we, hwe⟩ : ∃ we, we = wr.alloc (.cells #[.int .i64 op, .string name, .int .i64 n2, .slice A2 lc cc, .slice B2 lb cb2, .slice E2 le ce] 42) := ⟨_, rfl⟩
        have hbe : Below wa.heap.size wa we := by rw [hwe]; exact HB.out.alloc HB.out.size _
        have hse : we.heap[wr.heap.size]? = some (.cells #[.int .i64 op, .string name, .int .i64 n2, .slice A2 lc cc, .slice B2 lb cb2, .slice E2 le ce] 42 (0, 0)) := by rw [hwe]; exact heap_new _ _
        have HBwe := Lib.hid hbe
        have HSE : Hid (∀ wx, Below we.heap.size we wx → wx.cell? ⟨wr.heap.size, 0, none⟩ = some (.int .i64 op) ∧ wx.cell? ⟨wr.heap.size, 1, none⟩ = some (.string name) ∧ wx.cell? ⟨wr.heap.size, 3, none⟩ = some (.slice A2 lc cc) ∧ wx.cell? ⟨wr.heap.size, 4, none⟩ = some (.slice B2 lb cb2) ∧ wx.cell? ⟨wr.heap.size, 5, none⟩ = some (.slice E2 le ce) ∧ wx.cell? ⟨w.heap.size, 0, none⟩ = some (.slice FA fl fc) ∧ wx.cell? ⟨w.heap.size, 1, none⟩ = some (.slice B kb cb)) := Lib.hid (fun wx hb => by
          have h1 := (Below.chg hb).heap hse (fun x => x)
          have h2 := (Below.chg hb).heap ((Below.chg hbe).heap HSB.out (fun x => x)) (fun x => x)
          exact ⟨cell_of_block h1 0, cell_of_block h1 1, cell_of_block h1 3, cell_of_block h1 4, cell_of_block h1 5, cell_of_block h2 0, cell_of_block h2 1⟩)
        have hFe : Funcs we X FA fc fs := HF.out.kept (Below.chg hbe) (fun _ _ x => x)
        have CE : Hid (∀ wx, Below we.heap.size we wx → Calls Try.prog 33 #[.agg #[.slice FA fl fc, .slice B kb cb], .slice A2 lc cc] wx fun e w' => e = .returned (.bool (l'.any (tellE (prms fs)))) ∧ Below wx.heap.size wx w') := Lib.hid (fun wx hb => by
          rw [hlc, HFL.out]
          exact rexprs_any (SizeOf.sizeOf l' + 1) l' (Nat.lt_succ_self _) wx X FA B A2 fc kb cb cc fs (hFe.kept (Below.chg hb) (fun _ _ x => x)) ((hEx.keep hbe).keep hb))
        have CB : Hid (∀ wx, Below we.heap.size we wx → Calls Try.prog 24 #[.agg #[.slice FA fl fc, .slice B kb cb], .slice B2 lb cb2, .bool pub] wx fun e w' => e = .returned (.bool (body.any (tellS (prms fs) pub))) ∧ Below wx.heap.size wx w') := Lib.hid (fun wx hb => by
          rw [hlb]
          exact HIH.out body hz1 wx B2 cb2 (hFe.kept (Below.chg hb) (fun _ _ x => x)) ((hBo.keep hbe).keep hb))
        have CL : Hid (∀ wx, Below we.heap.size we wx → Calls Try.prog 24 #[.agg #[.slice FA fl fc, .slice B kb cb], .slice E2 le ce, .bool pub] wx fun e w' => e = .returned (.bool (els.any (tellS (prms fs) pub))) ∧ Below wx.heap.size wx w') := Lib.hid (fun wx hb => by
          rw [hle]
          exact HIH.out els hz2 wx E2 ce (hFe.kept (Below.chg hb) (fun _ _ x => x)) ((hEl.keep hbe).keep hb))
        have CP : Hid (∀ wx, Below we.heap.size we wx → ∀ i : Nat, i ≤ 8796093022208 → Calls Try.prog 32 #[.slice A2 lc cc, .int .i64 i] wx fun e w' => e = .returned (.bool (leaksv l' i)) ∧ Below wx.heap.size wx w') := Lib.hid (fun wx hb i hi => by rw [hlc]; exact rpart_any ((hEx.keep hbe).keep hb) i hi)
        have hTE := tellS_eq (prms fs) pub op name n2 l' body els
        have HTK := Lib.hid htk
        obtain ⟨g0, g1, g3, g4, g5, p0, p1⟩ := HSE.out we (Below.refl _ _)
        obtain ⟨r1, hr1⟩ : ∃ r1, l'.any (tellE (prms fs)) = r1 := ⟨_, rfl⟩
        obtain ⟨rb, hrb⟩ : ∃ rb, body.any (tellS (prms fs) pub) = rb := ⟨_, rfl⟩
        obtain ⟨re, hre⟩ : ∃ re, els.any (tellS (prms fs) pub) = re := ⟨_, rfl⟩
        obtain ⟨ow, how⟩ : ∃ ow, ownS (prms fs) pub op name l' = ow := ⟨_, rfl⟩
        rw [hr1] at CE hTE
        rw [hrb] at CB hTE
        rw [hre] at CL hTE
        rw [how] at hTE
        have HTE := Lib.hid hTE
        obtain ⟨r2, hr2⟩ : ∃ r2, leaksv l' 0 = r2 := ⟨_, rfl⟩
        obtain ⟨r3, hr3⟩ : ∃ r3, leaksv l' 1 = r3 := ⟨_, rfl⟩
        obtain ⟨g, hg⟩ : ∃ g, great name = g := ⟨_, rfl⟩
        have HOV : Hid (ow = if op = 2 then r2 || (!g && r3) else if op = 1 then !g && r2 else if op = 9 then pub && r2 else if op = 5 ∨ op = 7 ∨ op = 8 then r2 else false) := Lib.hid (by rw [← how]; unfold ownS; rw [hr2, hr3, hg])
        have HR2 := Lib.hid hr2
        have HR3 := Lib.hid hr3
        have HG := Lib.hid hg
        clear hc htk hmem hx hie hEx hBo hEl hz1 hz2 hbe hse hjl hr1 hrb hre how hr2 hr3 hg hlc hlb hle hFe hTE
        go_upto_region 5 with fail
        rw [← hwe]
        clear hwe q0 q1 q2 q3 q4 q5
        go_wp2_with fail
        refine (CP.out _ (Below.refl _ _) 0 (by decide)).mono ?_; rintro e w1 ⟨rfl, hb1⟩
        rw [HR2.out]
        clear g0 g1 g3 g4 g5 p0 p1
        obtain ⟨g0, g1, g3, g4, g5, p0, p1⟩ := HSE.out w1 hb1
        go_wp2_with fail
        refine (CP.out _ hb1 1 (by decide)).mono ?_; rintro e w2 ⟨rfl, hb2⟩
        rw [HR3.out]
        have hb2' := bel_trans hb1 hb2
        clear g0 g1 g3 g4 g5 p0 p1 hb1 hb2
        obtain ⟨g0, g1, g3, g4, g5, p0, p1⟩ := HSE.out w2 hb2'
        go_wp2_with fail
        refine (rgreat_any _ _).mono ?_; rintro e w3 ⟨rfl, rfl⟩
        rw [HG.out]
        go_upto_block 2 with fail
        go_cut [12] from 37 to 64 (fun a wx => a = .bool ow ∧ wx = w3)
        case first =>
          have hov := HOV.out
          clear HOV
          have hcs : op = 2 ∨ op = 1 ∨ op = 9 ∨ op = 5 ∨ op = 7 ∨ op = 8 ∨ (¬ op = 2 ∧ ¬ op = 1 ∧ ¬ op = 9 ∧ ¬ op = 5 ∧ ¬ op = 7 ∧ ¬ op = 8) := by omega
          rcases hcs with rfl | rfl | rfl | rfl | rfl | rfl | ⟨h2, h1, h9, h5, h7, h8⟩
          · obtain rfl : ow = (r2 || (!g && r3)) := hov
            clear HTE
            cases r2 <;> cases r3 <;> cases g
            all_goals
              go_wp2_with fail
              go_meet
              case rel => exact ⟨rfl, rfl⟩
          · obtain rfl : ow = (!g && r2) := hov
            clear HTE
            cases r2 <;> cases g
            all_goals
              go_wp2_with fail
              go_meet
              case rel => exact ⟨rfl, rfl⟩
          · obtain rfl : ow = (pub && r2) := hov
            clear HTE
            cases r2
            all_goals
              go_wp2_with fail
              go_meet
              case rel => exact ⟨by simp, rfl⟩
          iterate 3
            · obtain rfl : ow = r2 := hov
              go_wp2_with fail
              go_meet
              case rel => exact ⟨rfl, rfl⟩
          · obtain rfl : ow = false := by rw [hov, if_neg h2, if_neg h1, if_neg h9, if_neg (by omega)]
            go_wp2_with fail
            go_meet
            case rel => exact ⟨rfl, rfl⟩
        case rest =>
          obtain ⟨rfl, rfl⟩ := hcut
          clear HOV
          go_wp2_with fail
          refine (CE.out _ hb2').mono ?_; rintro e w4 ⟨rfl, hb4⟩
          have hb4' := bel_trans hb2' hb4
          clear g0 g1 g3 g4 g5 p0 p1 hb4 hb2'
          obtain ⟨g0, g1, g3, g4, g5, p0, p1⟩ := HSE.out w4 hb4'
          go_wp2_with fail
          refine (CB.out _ hb4').mono ?_; rintro e w5 ⟨rfl, hb5⟩
          have hb5' := bel_trans hb4' hb5
          clear g0 g1 g3 g4 g5 p0 p1 hb5 hb4'
          obtain ⟨g0, g1, g3, g4, g5, p0, p1⟩ := HSE.out w5 hb5'
          go_wp2_with fail
          refine (CL.out _ hb5').mono ?_; rintro e w6 ⟨rfl, hb6⟩
          have HB8 := Lib.hid (bel_trans hb5' hb6)
          clear g0 g1 g3 g4 g5 p0 p1 hb6 hb5'
          cases ow with
          | true =>
            go_wp2_with fail
            go_ret
            refine ⟨?_, HB0.out.trans ((bel_trans HBwe.out HB8.out).mono HB0.out.size)⟩
            have : l.any (tellS (prms fs) pub) = true := by
              have : l = l.take (j + 1) ++ l.drop (j + 1) := (List.take_append_drop _ _).symm
              rw [this, List.any_append, HTK.out, List.any_append, HT.out]
              simp only [List.any_cons, List.any_nil, Bool.or_false, Bool.false_or, Bool.or_eq_true]
              refine .inl ?_
              rw [HTE.out]
              simp
            rw [HRA.out] at this
            rw [this]
            rfl
          | false =>
            cases r1 with
            | true =>
              go_wp2_with fail
              go_ret
              refine ⟨?_, HB0.out.trans ((bel_trans HBwe.out HB8.out).mono HB0.out.size)⟩
              have : l.any (tellS (prms fs) pub) = true := by
                have : l = l.take (j + 1) ++ l.drop (j + 1) := (List.take_append_drop _ _).symm
                rw [this, List.any_append, HTK.out, List.any_append, HT.out]
                simp only [List.any_cons, List.any_nil, Bool.or_false, Bool.false_or, Bool.or_eq_true]
                refine .inl ?_
                rw [HTE.out]
                simp
              rw [HRA.out] at this
              rw [this]
              rfl
            | false =>
              cases rb with
              | true =>
                go_wp2_with fail
                go_ret
                refine ⟨?_, HB0.out.trans ((bel_trans HBwe.out HB8.out).mono HB0.out.size)⟩
                have : l.any (tellS (prms fs) pub) = true := by
                  have : l = l.take (j + 1) ++ l.drop (j + 1) := (List.take_append_drop _ _).symm
                  rw [this, List.any_append, HTK.out, List.any_append, HT.out]
                  simp only [List.any_cons, List.any_nil, Bool.or_false, Bool.false_or, Bool.or_eq_true]
                  refine .inl ?_
                  rw [HTE.out]
                  simp
                rw [HRA.out] at this
                rw [this]
                rfl
              | false =>
                cases re with
                | true =>
                  go_wp2_with fail
                  go_ret
                  refine ⟨?_, HB0.out.trans ((bel_trans HBwe.out HB8.out).mono HB0.out.size)⟩
                  have : l.any (tellS (prms fs) pub) = true := by
                    have : l = l.take (j + 1) ++ l.drop (j + 1) := (List.take_append_drop _ _).symm
                    rw [this, List.any_append, HTK.out, List.any_append, HT.out]
                    simp only [List.any_cons, List.any_nil, Bool.or_false, Bool.false_or, Bool.or_eq_true]
                    refine .inl ?_
                    rw [HTE.out]
                    simp
                  rw [HRA.out] at this
                  rw [this]
                  rfl
                | false =>
                  go_wp2_with fail
                  go_roundg (m - (j + 1))
                  case measure => have := HK.out; omega
                  case rel => exact ⟨j + 1, by omega, rfl, by go_num, Lib.hid (by rw [HTK.out, List.any_append, HT.out]; simp only [List.any_cons, List.any_nil, Bool.or_false, Bool.false_or]; rw [HTE.out]; rfl), Lib.hid (bel_trans HBwe.out HB8.out)⟩
      · have hjn : j = l.length := by rw [← HM.out]; omega
        go_wp2_with fail
        go_ret
        refine ⟨?_, HB0.out.trans (HB.out.mono HB0.out.size)⟩
        have h := HT.out
        rw [hjn, List.take_length, HRA.out] at h
        rw [h]
        rfl
end Go.Proofs.Ytnpmgnfohaeonaa
