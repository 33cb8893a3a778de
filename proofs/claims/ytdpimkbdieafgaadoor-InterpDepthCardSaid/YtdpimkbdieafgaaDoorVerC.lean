/- verify: place. -/
import Derived.Test.YtdpimkbdieafgaaDoorVerB
namespace Go.Proofs.YtdpimkbdieafgaaDoor
set_option linter.unusedVariables false
set_option linter.unusedSimpArgs false
open Go.RowKit Go.Conc

def noFn : FnR := ⟨ByteArray.empty, 0, 0, 0, []⟩
def noIns : InsR := ⟨0, 0, 0⟩
/-- how many an instruction takes, and the depth behind it -/
def takesAt (fs : List FnR) (i : InsR) : Int := if i.op = 17 then (fs.getD i.a.toNat noFn).ps else takesv i.op
def behind (fs : List FnR) (i : InsR) (dp : Int) : Int := wrap64 (wrap64 (dp - takesAt fs i) + leavesv i.op)
def succs (i : InsR) (p : Int) : List Int := if i.op = 18 then [] else if i.op = 15 then [i.a] else if i.op = 16 then [i.a, p + 1] else [p + 1]
def okAt (fs : List FnR) (f : FnR) (i : InsR) (dp : Int) : Bool := opOk fs.length f i && decide (0 ≤ wrap64 (dp - takesAt fs i))
def reachAll (n : Nat) (V : List (Int × Int)) : List Int → Int → Bool × List (Int × Int)
  | [], _ => (true, V)
  | q :: qs, dp => if (reachv n V q dp).1 = true then reachAll n (reachv n V q dp).2 qs dp else (false, (reachv n V q dp).2)
def placev (fs : List FnR) (f : FnR) (V : List (Int × Int)) (i : InsR) (p dp : Int) : Bool × List (Int × Int) :=
  if okAt fs f i dp = true then reachAll f.l.length V (succs i p) (behind fs i dp) else (false, V)
theorem reachAll_one (n : Nat) (V : List (Int × Int)) (q dp : Int) : reachAll n V [q] dp = reachv n V q dp := by
  unfold reachAll reachAll
  obtain ⟨b, V1⟩ := reachv n V q dp
  cases b <;> simp

set_option maxHeartbeats 4000000 in
set_option maxRecDepth 100000 in
theorem place_any {w : World} {X mb cb : Nat} {fs : List FnR} {f : FnR} {A : Option Addr} {c : Nat} {B : Option Addr} {d : Nat} {V : List (Int × Int)} {r : Nat} (h : LookIs w X mb cb fs.length f A c B d V r) (hs : SortsIs w)
    (hfs : FnsIs w (.slice A fs.length c) fs) (hkn : fs.length ≤ 1048576) (hsrc : Src w (.slice B f.l.length d) f.l.length (insCells f.l)) (hl : f.l.length ≤ 1048576) (p : Nat) (hp : p < f.l.length) (dp : Int) (hdp : lookv V p = some dp) :
    Calls Tryd.prog 40 #[.pointer (some ⟨X, 0, none⟩), .int .i64 p] w fun e w' => e = .returned (.bool (placev fs f V f.l[p] p dp).1) ∧ LookIs w' X mb cb fs.length f A c B d (placev fs f V f.l[p] p dp).2 r ∧ Chg (fun x => x = mb ∨ x = cb) w w' := by
  obtain ⟨b, off, cap, e, hbs, hcap, c0, c1, c2⟩ := hsrc.get p hp
  injection e with e1 e2 e3
  subst e1 e3
  obtain ⟨k, hk⟩ : ∃ k, k = fs.length := ⟨_, rfl⟩
  obtain ⟨n, hn⟩ : ∃ n, n = f.l.length := ⟨_, rfl⟩
  have hpn : p < n := by omega
  generalize f.l[p] = i at *
  obtain ⟨op, a, nn⟩ := i
  simp only at c0 c1 c2
  obtain ⟨R, hR⟩ : ∃ R, R = placev fs f V ⟨op, a, nn⟩ p dp := ⟨_, rfl⟩
  rw [← hR]
  obtain ⟨w0, hw0⟩ : ∃ w0, w0 = w.alloc (.cells #[.int .i64 op, .int .i64 a, .int .i64 nn] 44) := ⟨_, rfl⟩
  obtain ⟨P0, hP0⟩ : ∃ P0, P0 = w.heap.size := ⟨_, rfl⟩
  have hb0 : Below w.heap.size w w0 := by rw [hw0]; exact (Below.refl _ _).alloc (Nat.le_refl _) _
  have HI0 : Hid (w0.heap[P0]? = some (.cells #[.int .i64 op, .int .i64 a, .int .i64 nn] 44 (0, 0))) := Lib.hid (by rw [hw0]; exact heap_new' hP0.symm)
  have hx := h.box
  unfold LookBox at hx
  rw [← hk, ← hn] at hx
  have y5 := cell_of_block hx 5
  simp at y5
  have hBo := operands_any (h.keep hb0).box (k := fs.length) hkn ⟨op, a, nn⟩
  have HL0 := Lib.hid (h.keep hb0)
  have HS0 := Lib.hid (hs.keep hb0)
  have HF0 := Lib.hid (hfs.keep hb0)
  have HB0 := Lib.hid hb0
  have CO := Lib.hid hBo
  have HWE := Lib.hid (And.intro hw0 hP0)
  have HKN := Lib.hid (And.intro hk hn)
  have HDP := Lib.hid hdp
  have hkn' : k ≤ 1048576 := by omega
  have hln' : n ≤ 1048576 := by omega
  clear h hs hfs hsrc hw0 hP0 hb0 hBo hx hk hn hdp hbs hp
  unfold InsR.agg at CO
  simp only at CO
  go_enter Tryd.func40, Tryd.ntmps40
  go_upto_region 2 with fail
  rw [← HWE.out.1, ← HWE.out.2]
  have i0 := cell_of_block HI0.out 0
  have i1 := cell_of_block HI0.out 1
  have i2 := cell_of_block HI0.out 2
  simp at i0 i1 i2
  clear y5 c0 c1 c2
  go_wp2_with fail
  refine CO.out.mono ?_; rintro e w1 ⟨rfl, hb1⟩
  have HB1 := Lib.hid (bel_trans HB0.out hb1)
  have HL1 := Lib.hid (HL0.out.keep hb1)
  have HS1 := Lib.hid (HS0.out.keep hb1)
  have HF1 := Lib.hid (HF0.out.keep hb1)
  have HI1 := Lib.hid ((Below.chg hb1).heap HI0.out (fun x => x))
  clear hb1 CO HL0 HS0 HF0 HI0 HB0 i0 i1 i2
  have i0 := cell_of_block HI1.out 0
  have i1 := cell_of_block HI1.out 1
  have i2 := cell_of_block HI1.out 2
  simp at i0 i1 i2
  cases hok : opOk fs.length f ⟨op, a, nn⟩ with
  | false =>
    have hR2 : R = (false, V) := by rw [hR]; unfold placev okAt; rw [hok]; rfl
    clear hR hok
    subst hR2
    go_wp2_with fail
    go_ret
    exact ⟨rfl, HL1.out, (Below.chg HB1.out).mono (fun _ _ x => x.elim)⟩
  | true =>
    have ho := opOk_known hok
    simp only at ho
    have HOK := Lib.hid hok
    have hpw : (Lit.int .i64 (p : Int)).wf = true := by
      have : IntKind.i64.min ≤ (p : Int) ∧ (p : Int) ≤ IntKind.i64.max := ⟨by show (-9223372036854775808 : Int) ≤ p; omega, by show (p : Int) ≤ (9223372036854775807 : Int); omega⟩
      simpa [Lit.wf] using this
    have HPW := Lib.hid hpw
    have C1 := Lib.hid (takes_any HS1.out op ho)
    have HO := Lib.hid ho
    clear hok hpw ho
    go_wp2_with fail
    refine C1.out.mono ?_; rintro e w2 ⟨rfl, hb2⟩
    have HB2 := Lib.hid (bel_trans HB1.out hb2)
    have HL2 := Lib.hid (HL1.out.keep hb2)
    have HS2 := Lib.hid (HS1.out.keep hb2)
    have HF2 := Lib.hid (HF1.out.keep hb2)
    have HI2 := Lib.hid ((Below.chg hb2).heap HI1.out (fun x => x))
    clear hb2 C1 i0 i1 i2
    have hx := HL2.out.box
    unfold LookBox at hx
    rw [← HKN.out.1, ← HKN.out.2] at hx
    have y0 := cell_of_block hx 0
    have y6 := cell_of_block hx 6
    have i0 := cell_of_block HI2.out 0
    have i1 := cell_of_block HI2.out 1
    simp at y0 y6 i0 i1
    have hlk : ∀ m, (Instr.lookup 105 (.map (some mb)) (.int .i64 (p : Int)) false).run Tryd.prog (w2.drewN m) = .ok (.int .i64 dp) (w2.drewN m) := fun m => by
      have h := (HL2.out.map.heap (w' := w2.drewN m) rfl).look p HPW.out
      rw [HDP.out] at h
      exact h
    have hlk0 : (Instr.lookup 105 (.map (some mb)) (.int .i64 (p : Int)) false).run Tryd.prog w2 = .ok (.int .i64 dp) w2 := by
      have h := HL2.out.map.look p HPW.out
      rw [HDP.out] at h
      exact h
    obtain ⟨D0, hD0⟩ : ∃ D0, wrap64 (dp - takesAt fs ⟨op, a, nn⟩) = D0 := ⟨_, rfl⟩
    obtain ⟨D1, hD1⟩ : ∃ D1, wrap64 (D0 + leavesv op) = D1 := ⟨_, rfl⟩
    have hbh : behind fs ⟨op, a, nn⟩ dp = D1 := by unfold behind; rw [hD0]; exact hD1
    have HRV : Hid (R = if 0 ≤ D0 then reachAll n V (succs ⟨op, a, nn⟩ p) D1 else (false, V)) := Lib.hid (by
      rw [hR]
      unfold placev okAt
      rw [HOK.out, Bool.true_and, hD0, hbh, ← HKN.out.2]
      by_cases h : 0 ≤ D0
      · rw [if_pos h, decide_eq_true h, if_pos rfl]
      · rw [if_neg h, decide_eq_false h, if_neg (by decide)])
    clear hx hR hbh
    by_cases h17 : op = 17
    · subst h17
      have hop := HOK.out
      have ha : 1 ≤ a ∧ a < (fs.length : Int) := by
        unfold opOk at hop
        simp at hop
        exact hop
      rw [← HKN.out.1] at ha
      obtain ⟨j, rfl⟩ : ∃ j : Nat, a = (j : Int) := ⟨a.toNat, by omega⟩
      obtain ⟨b2, off2, cap2, A2, cc2, e, _, hcap2, ⟨_, g1, _, _, _⟩, _⟩ := HF2.out.get j (by have := HKN.out.1; omega)
      injection e with e1 e2 e3
      subst e1 e3
      have hT : takesAt fs ⟨17, j, nn⟩ = (fs[j]'(by have := HKN.out.1; omega)).ps := by
        unfold takesAt
        simp only [if_pos]
        rw [show ((j : Int)).toNat = j by omega, List.getD_eq_getElem?_getD, List.getElem?_eq_getElem (by have := HKN.out.1; omega)]
        rfl
      rw [hT] at hD0
      obtain ⟨T, hTT⟩ : ∃ T, T = (fs[j]'(by have := HKN.out.1; omega)).ps := ⟨_, rfl⟩
      rw [← hTT] at hD0 g1
      have hj1 : (1 : Int) ≤ (j : Int) := ha.1
      have hj2 : j < k := by omega
      rw [← HKN.out.1] at hcap2
      clear hop hT hTT e2
      go_wp2_with fail
      go_quiet (fail)
      obtain ⟨w3, hw3⟩ : ∃ w3, w3 = w2.drewN nq := ⟨_, rfl⟩
      have hb3 : Below w2.heap.size w2 w3 := by rw [hw3]; exact ((Chg.refl (fun _ => False) w2).drewN nq).below (fun k h => h.elim) (Nat.le_refl _)
      have HL3 := Lib.hid (HL2.out.keep hb3)
      have HS3 := Lib.hid (HS2.out.keep hb3)
      have HB3 := Lib.hid (bel_trans HB2.out hb3)
      have HI3 := Lib.hid ((Below.chg hb3).heap HI2.out (fun x => x))
      have hlk3 := hlk nq
      rw [← hw3] at hlk3 ⊢
      have y6' := cell_of_block (by have h := HL3.out.box; unfold LookBox at h; exact h) 6
      have i0' := cell_of_block HI3.out 0
      have i1' := cell_of_block HI3.out 1
      simp at y6' i0' i1'
      clear hlk hlk0 hw3 hb3 y0 y6 i0 i1 g1
      have i0 := i0'
      have i1 := i1'
      have y6 := y6'
      have y0 := y6'
      clear i0' i1' y6'
      have hR0 : 0 ≤ D0 ∨ D0 < 0 := by omega
      by_cases hD : D0 < 0
      · have hR2 : R = (false, V) := by rw [HRV.out, if_neg (by omega)]
        subst hR2
        go_wp2_with fail
        go_ret
        exact ⟨rfl, HL3.out, (Below.chg HB3.out).mono (fun _ _ x => x.elim)⟩
      · have hRR : R = reachAll n V (succs ⟨17, j, nn⟩ p) D1 := by rw [HRV.out, if_pos (by omega)]
        have HRR := Lib.hid hRR
        have C4 := Lib.hid (leaves_any HS3.out 17 HO.out)
        clear hRR hR0
        go_wp2_with fail
        refine C4.out.mono ?_; rintro e w4 ⟨rfl, hb4⟩
        have HB4 := Lib.hid (bel_trans HB3.out hb4)
        have HL4 := Lib.hid (HL3.out.keep hb4)
        have HI4 := Lib.hid ((Below.chg hb4).heap HI3.out (fun x => x))
        clear hb4 C4 i0 i1 y0 y6
        have i0 := cell_of_block HI4.out 0
        have i1 := cell_of_block HI4.out 1
        simp at i0 i1
        have HFIN : Hid (∀ w', Chg (fun x => x = mb ∨ x = cb) w4 w' → Chg (fun x => x = mb ∨ x = cb) w w') := Lib.hid (fun w' hc => ((Below.chg HB4.out).mono (fun _ _ x => x.elim)).then hc)
        have HSU : Hid (succs ⟨17, (j : Int), nn⟩ p = [(p : Int) + 1]) := Lib.hid rfl
        have HR1 : Hid (R = reachv n V (p + 1) D1) := Lib.hid (by rw [HRR.out, HSU.out, reachAll_one])
        have C5 := Lib.hid (reaches_any HL4.out (by have := HKN.out.2; omega) (p + 1) D1)
        rw [← HKN.out.2, ← HR1.out] at C5
        go_wp2_with fail
        refine C5.out.mono ?_; rintro e w5 ⟨rfl, hl5, hc5⟩
        have HL5 := Lib.hid (And.intro hl5 (HFIN.out _ hc5))
        clear hl5 hc5
        go_wp2_with fail
        go_ret
        exact ⟨rfl, HL5.out.1, HL5.out.2⟩
    · have hT : takesAt fs ⟨op, a, nn⟩ = takesv op := by unfold takesAt; rw [if_neg h17]
      rw [hT] at hD0
      have t17 : (op == 17) = false := by rw [beq_eq_false_iff_ne]; exact h17
      obtain ⟨T, hTT⟩ : ∃ T, takesv op = T := ⟨_, rfl⟩
      rw [hTT] at hD0 ⊢
      clear hT hTT
      have HL3 := HL2
      have HS3 := HS2
      have HB3 := HB2
      have HI3 := HI2
      clear hlk
      have hR0 : 0 ≤ D0 ∨ D0 < 0 := by omega
      by_cases hD : D0 < 0
      · have hR2 : R = (false, V) := by rw [HRV.out, if_neg (by omega)]
        subst hR2
        go_wp2_with fail
        go_ret
        exact ⟨rfl, HL3.out, (Below.chg HB3.out).mono (fun _ _ x => x.elim)⟩
      · have hRR : R = reachAll n V (succs ⟨op, a, nn⟩ p) D1 := by rw [HRV.out, if_pos (by omega)]
        have HRR := Lib.hid hRR
        have C4 := Lib.hid (leaves_any HS3.out op HO.out)
        clear hRR hR0
        go_wp2_with fail
        refine C4.out.mono ?_; rintro e w4 ⟨rfl, hb4⟩
        have HB4 := Lib.hid (bel_trans HB3.out hb4)
        have HL4 := Lib.hid (HL3.out.keep hb4)
        have HI4 := Lib.hid ((Below.chg hb4).heap HI3.out (fun x => x))
        clear hb4 C4 i0 i1 y0 y6
        have i0 := cell_of_block HI4.out 0
        have i1 := cell_of_block HI4.out 1
        simp at i0 i1
        have HFIN : Hid (∀ w', Chg (fun x => x = mb ∨ x = cb) w4 w' → Chg (fun x => x = mb ∨ x = cb) w w') := Lib.hid (fun w' hc => ((Below.chg HB4.out).mono (fun _ _ x => x.elim)).then hc)
        by_cases h18 : op = 18
        · subst h18
          have hR2 : R = (true, V) := by rw [HRR.out]; rfl
          subst hR2
          go_wp2_with fail
          go_ret
          exact ⟨rfl, HL4.out, HFIN.out _ (Chg.refl _ _)⟩
        by_cases h15 : op = 15
        · subst h15
          have HR1 : Hid (R = reachv n V a D1) := Lib.hid (by rw [HRR.out]; exact reachAll_one _ _ _ _)
          have C5 := Lib.hid (reaches_any HL4.out (by have := HKN.out.2; omega) a D1)
          rw [← HKN.out.2, ← HR1.out] at C5
          go_wp2_with fail
          refine C5.out.mono ?_; rintro e w5 ⟨rfl, hl5, hc5⟩
          have HL5 := Lib.hid (And.intro hl5 (HFIN.out _ hc5))
          clear hl5 hc5
          go_wp2_with fail
          go_ret
          exact ⟨rfl, HL5.out.1, HL5.out.2⟩
        by_cases h16 : op = 16
        · subst h16
          have C5 := Lib.hid (reaches_any HL4.out (by have := HKN.out.2; omega) a D1)
          rw [← HKN.out.2] at C5
          have HR1 : Hid (R = reachAll n V [a, (p : Int) + 1] D1) := Lib.hid (by rw [HRR.out]; rfl)
          rcases hrv : reachv n V a D1 with ⟨bb, V1⟩
          rw [hrv] at C5
          simp only at C5
          have HRV1 := Lib.hid hrv
          clear hrv
          cases bb with
          | false =>
            have hR2 : R = (false, V1) := by rw [HR1.out]; unfold reachAll; rw [HRV1.out]; rfl
            subst hR2
            go_wp2_with fail
            refine C5.out.mono ?_; rintro e w5 ⟨rfl, hl5, hc5⟩
            have HL5 := Lib.hid (And.intro hl5 (HFIN.out _ hc5))
            clear hl5 hc5
            go_wp2_with fail
            go_ret
            exact ⟨rfl, HL5.out.1, HL5.out.2⟩
          | true =>
            have HR2 : Hid (R = reachv n V1 ((p : Int) + 1) D1) := Lib.hid (by rw [HR1.out, reachAll, HRV1.out]; exact reachAll_one _ _ _ _)
            go_wp2_with fail
            refine C5.out.mono ?_; rintro e w5 ⟨rfl, hl5, hc5⟩
            have C6 := Lib.hid (reaches_any hl5 (by have := HKN.out.2; omega) ((p : Int) + 1) D1)
            rw [← HKN.out.2, ← HR2.out] at C6
            have HC5 := Lib.hid hc5
            clear hl5 hc5
            go_wp2_with fail
            refine C6.out.mono ?_; rintro e w6 ⟨rfl, hl6, hc6⟩
            have HL6 := Lib.hid (And.intro hl6 (HFIN.out _ (HC5.out.then hc6)))
            clear hl6 hc6
            go_wp2_with fail
            go_ret
            exact ⟨rfl, HL6.out.1, HL6.out.2⟩
        have HSU : Hid (succs ⟨op, a, nn⟩ p = [(p : Int) + 1]) := Lib.hid (by unfold succs; rw [if_neg h18, if_neg h15, if_neg h16])
        have t18 : (op == 18) = false := by rw [beq_eq_false_iff_ne]; exact h18
        have t15 : (op == 15) = false := by rw [beq_eq_false_iff_ne]; exact h15
        have t16 : (op == 16) = false := by rw [beq_eq_false_iff_ne]; exact h16
        clear h18 h15 h16
        have HR1 : Hid (R = reachv n V (p + 1) D1) := Lib.hid (by rw [HRR.out, HSU.out, reachAll_one])
        have C5 := Lib.hid (reaches_any HL4.out (by have := HKN.out.2; omega) (p + 1) D1)
        rw [← HKN.out.2, ← HR1.out] at C5
        go_wp2_with fail
        refine C5.out.mono ?_; rintro e w5 ⟨rfl, hl5, hc5⟩
        have HL5 := Lib.hid (And.intro hl5 (HFIN.out _ hc5))
        clear hl5 hc5
        go_wp2_with fail
        go_ret
        exact ⟨rfl, HL5.out.1, HL5.out.2⟩
end Go.Proofs.YtdpimkbdieafgaaDoor
