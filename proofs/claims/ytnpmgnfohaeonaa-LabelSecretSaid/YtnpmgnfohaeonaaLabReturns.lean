/- LabelReturns: the walk of the law. -/
import Derived.Test.YtnpmgnfohaeonaaLabPlain
namespace Go.Proofs.Ytnpmgnfohaeonaa
set_option linter.unusedVariables false
set_option linter.unusedSimpArgs false
open Go.RowKit

theorem pop_ne (op : Int) : pop op ≠ 5 ∧ pop op ≠ 4 ∧ pop op ≠ 11 ∧ pop op ≠ 12 := by unfold pop; split <;> omega
theorem tellE_plain (prm : ByteArray → List ByteArray) (d : Nat) : ∀ t, tellE prm (plainT d t) = false := by
  induction d with
  | zero =>
    intro t
    obtain ⟨op, n, nm, l⟩ := t
    obtain ⟨h5, h4, h11, h12⟩ := pop_ne op
    rw [plainT, tellE_eq]
    simp [ownE, h5, h4, h11, h12]
  | succ d ih =>
    intro t
    obtain ⟨op, n, nm, l⟩ := t
    obtain ⟨h5, h4, h11, h12⟩ := pop_ne op
    rw [plainT, tellE_eq]
    simp [ownE, h5, h4, h11, h12, ih]
def retT (t : ExprT) : StmtT := .mk 9 ⟨#[]⟩ 0 [t] [] []
theorem tellS_ret (prm : ByteArray → List ByteArray) (pub : Bool) (t : ExprT) (h : tellE prm t = false) : tellS prm pub (retT t) = (pub && secE t) := by
  unfold retT
  rw [tellS_eq]
  simp [ownS, leaksv, h]
theorem check_main (t : ExprT) (h : ∀ prm, tellE prm t = false) : checkv ⟨[], [retT t]⟩ = if secE t then 5 else 0 := by
  simp [checkv, badP, tellS_ret _ _ _ (h _)]
theorem check_fun (s : ByteArray) (t : ExprT) (h : ∀ prm, tellE prm t = false) : checkv ⟨[⟨s, [], [retT t]⟩], []⟩ = if (!great s && secE t) then 5 else 0 := by
  simp [checkv, badP, tellS_ret _ _ _ (h _)]

set_option maxHeartbeats 16000000 in
set_option maxRecDepth 100000 in
theorem labelReturns_walk (s : ByteArray) (te : ExprT) (ce : List Value) (w : World) (hs : s.size ≤ 140737488351232) (he : rdExprS.K w te ce) :
    Calls Try.prog 9 #[.string s, .agg ce.toArray] w fun e w' => e = .returned (.bool true) ∧ Below w.heap.size w w' := by
  suffices hh : ∀ b0, b0 = w.heap.size → Calls Try.prog 9 #[.string s, .agg ce.toArray] w fun e w' => e = .returned (.bool true) ∧ Below b0 w w' from hh _ rfl
  intro b0 hb0
  obtain ⟨hie, hsm⟩ := he
  obtain ⟨o1, n1, s1, A1, k1, c1, rfl⟩ : ∃ o1 n1 s1 A1 k1 c1, ce = [.int .i64 o1, .int .i64 n1, .string s1, .slice A1 k1 c1] := by cases hie; exact ⟨_, _, _, _, _, _, rfl⟩
  have CPL : Hid (∀ wx, Below w.heap.size w wx → Calls Try.prog 17 #[.agg #[.int .i64 o1, .int .i64 n1, .string s1, .slice A1 k1 c1], .int .i64 60] wx fun e w' => ∃ (a b : Int) (s : ByteArray) (A : Option Addr) (k c : Nat), e = .returned (.agg #[.int .i64 a, .int .i64 b, .string s, .slice A k c]) ∧ IsExpr w' (fun k => wx.heap.size ≤ k ∧ k < w'.heap.size) (plainT 60 te) [.int .i64 a, .int .i64 b, .string s, .slice A k c] ∧ Below wx.heap.size wx w') := Lib.hid (fun wx hb => plain_any 60 (by omega) te wx (Lt w) _ (hie.keep hb) hsm)
  have htl : ∀ prm, tellE prm (plainT 60 te) = false := fun prm => tellE_plain prm 60 te
  generalize plainT 60 te = tp at *
  obtain ⟨x, hx⟩ : ∃ x, secE tp = x := ⟨_, rfl⟩
  obtain ⟨g, hg⟩ : ∃ g, great s = g := ⟨_, rfl⟩
  have HM : Hid (checkv ⟨[], [retT tp]⟩ = if x then 5 else 0) := Lib.hid (by rw [check_main tp htl, hx])
  have HF : Hid (checkv ⟨[⟨s, [], [retT tp]⟩], []⟩ = if (!g && x) then 5 else 0) := Lib.hid (by rw [check_fun s tp htl, hx, hg])
  obtain ⟨v1, hv1⟩ : ∃ v1 : Int, (if (!g && x) then 5 else 0) = v1 := ⟨_, rfl⟩
  obtain ⟨v2, hv2⟩ : ∃ v2 : Int, (if x then 5 else 0) = v2 := ⟨_, rfl⟩
  rw [hv1] at HF
  rw [hv2] at HM
  have HV1 := Lib.hid hv1
  have HV2 := Lib.hid hv2
  clear hv1 hv2
  have HX := Lib.hid hx
  have HG := Lib.hid hg
  have HS := Lib.hid hs
  have HW := Lib.hid hb0
  have HBB : Hid (Below b0 w (w.alloc (.cells #[.int .i64 o1, .int .i64 n1, .string s1, .slice A1 k1 c1] 28))) := Lib.hid (by rw [hb0]; exact (Below.refl _ _).alloc (Nat.le_refl _) _)
  clear hie hsm htl hx hg hs
  show Calls Try.prog 9 #[.string s, .agg #[.int .i64 o1, .int .i64 n1, .string s1, .slice A1 k1 c1]] w _
  go_enter Try.func9, Try.ntmps9
  go_wp2_with fail
  refine (shown_any _).mono ?_; rintro e w1 ⟨rfl, hb1⟩
  have hbx1 : w1.heap[b0]? = some (.cells #[.int .i64 o1, .int .i64 n1, .string s1, .slice A1 k1 c1] 28 (0, 0)) := (Below.chg hb1).heap (by rw [hb0]; exact heap_new _ _) (fun x => x)
  have hb1' : Below b0 w w1 := HBB.out.trans (hb1.mono (by simp; omega))
  rw [← hb0]
  clear hb0 hb1
  have q0 := cell_of_block hbx1 0
  have q1 := cell_of_block hbx1 1
  have q2 := cell_of_block hbx1 2
  have q3 := cell_of_block hbx1 3
  simp at q0 q1 q2 q3
  go_wp2_with fail
  refine (CPL.out w1 (by rw [← HW.out]; exact hb1')).mono ?_; rintro e w2 ⟨a, b, s2, A2, k2, c2, rfl, hip, hb2⟩
  have hbx2 := (Below.chg hb2).heap hbx1 (fun x => x)
  have hlb := lt_of_heap hbx1
  obtain ⟨w3, hw3⟩ : ∃ w3, w3 = ((((w2.setCell ⟨b0, 0, none⟩ (.int .i64 a)).setCell ⟨b0, 1, none⟩ (.int .i64 b)).setCell ⟨b0, 2, none⟩ (.string s2)).setCell ⟨b0, 3, none⟩ (.slice A2 k2 c2)) := ⟨_, rfl⟩
  have hchg : Chg (fun k => k = b0) w2 w3 := by
    rw [hw3]
    exact ((((Chg.refl (fun k => k = b0) w2).setCell (p := ⟨b0, 0, none⟩) (fun _ => rfl) _).setCell (p := ⟨b0, 1, none⟩) (fun _ => rfl) _).setCell (p := ⟨b0, 2, none⟩) (fun _ => rfl) _).setCell (p := ⟨b0, 3, none⟩) (fun _ => rfl) _
  have hbx3 : w3.heap[b0]? = some (.cells #[.int .i64 a, .int .i64 b, .string s2, .slice A2 k2 c2] 28 (0, 0)) := by
    rw [hw3]
    exact heap_set (heap_set (heap_set (heap_set hbx2 0 _) 1 _) 2 _) 3 _
  have hip3 : IsExpr w3 (Lt w3) tp [.int .i64 a, .int .i64 b, .string s2, .slice A2 k2 c2] := (hip.kept hchg (fun k hk e => by omega)).mono (fun k hk => Nat.lt_of_lt_of_le hk.2 hchg.size)
  have hb3 : Below b0 w w3 := hb1'.trans ((hb2.mono (by omega)).trans (hchg.below (B := b0) (fun k e => by omega) (by have := hb2.size; omega)))
  have HW3 := Lib.hid hw3
  have z0 := cell_of_block hbx2 0
  have z1 := cell_of_block hbx2 1
  have z2 := cell_of_block hbx2 2
  have z3 := cell_of_block hbx2 3
  have f0 := frozen_of_block hbx2 0
  have f1 := frozen_of_block hbx2 1
  have f2 := frozen_of_block hbx2 2
  have f3 := frozen_of_block hbx2 3
  simp at z0 z1 z2 z3
  have HI3 := Lib.hid (And.intro hip3 (And.intro hbx3 hb3))
  clear q0 q1 q2 q3 hbx1 hb1' hip hb2 hbx2 hlb hchg hbx3 hip3 hb3 hw3
  go_upto_region 3 with fail
  rw [← HW3.out]
  clear z0 z1 z2 z3 f0 f1 f2 f3 HW3
  have z0 := cell_of_block HI3.out.2.1 0
  have z1 := cell_of_block HI3.out.2.1 1
  have z2 := cell_of_block HI3.out.2.1 2
  have z3 := cell_of_block HI3.out.2.1 3
  simp at z0 z1 z2 z3
  obtain ⟨L, hL⟩ : ∃ L, L = w3.heap.size := ⟨_, rfl⟩
  obtain ⟨w5, hw5⟩ : ∃ w5, w5 = (w3.alloc (.cells #[.int .i64 a, .int .i64 b, .string s2, .slice A2 k2 c2] 28)).alloc (.cells #[.int .i64 9, .string ⟨#[]⟩, .int .i64 0, .slice (some ⟨L, 0, none⟩) 1 1, .slice none 0 0, .slice none 0 0] 42) := ⟨_, rfl⟩
  have hE5 : w5.heap[L]? = some (.cells #[.int .i64 a, .int .i64 b, .string s2, .slice A2 k2 c2] 28 (0, 0)) := by rw [hw5]; exact heap_old (heap_new' hL.symm)
  have hS5 : w5.heap[L + 1]? = some (.cells #[.int .i64 9, .string ⟨#[]⟩, .int .i64 0, .slice (some ⟨L, 0, none⟩) 1 1, .slice none 0 0, .slice none 0 0] 42 (0, 0)) := by rw [hw5]; exact heap_new' (by simp [hL])
  have hb35 : Below w3.heap.size w3 w5 := by rw [hw5]; exact ((Below.refl _ _).alloc (Nat.le_refl _) _).alloc (by simp) _
  have hi5 : IsExpr w5 (Lt w5) tp [.int .i64 a, .int .i64 b, .string s2, .slice A2 k2 c2] := (HI3.out.1.keep hb35).mono (fun k hk => Nat.lt_of_lt_of_le hk hb35.size)
  have hx5 := (Below.chg hb35).heap HI3.out.2.1 (fun x => x)
  have hb5 : Below b0 w w5 := HI3.out.2.2.trans (hb35.mono (by have := lt_of_heap HI3.out.2.1; omega))
  have hst : ∀ wx, Below w5.heap.size w5 wx → Stmts wx (Lt wx) (some ⟨L + 1, 0, none⟩) 1 [retT tp] := fun wx hb => by
    have h1 := (Below.chg hb).heap hE5 (fun x => x)
    have h2 := (Below.chg hb).heap hS5 (fun x => x)
    have h3 : IsExpr wx (Lt wx) tp [.int .i64 a, .int .i64 b, .string s2, .slice A2 k2 c2] := (hi5.keep hb).mono (fun k hk => Nat.lt_of_lt_of_le hk hb.size)
    exact stmts_one (ds := [.int .i64 9, .string ⟨#[]⟩, .int .i64 0, .slice (some ⟨L, 0, none⟩) 1 1, .slice none 0 0, .slice none 0 0]) h2 (lt_of_heap h2) (isStmt_of (by decide) (exprs_one (ds := [.int .i64 a, .int .i64 b, .string s2, .slice A2 k2 c2]) h1 (lt_of_heap h1) h3) (stmts_nil _ _) (stmts_nil _ _) rfl rfl rfl)
  have COF : Hid (Calls Try.prog 13 #[.agg #[.int .i64 a, .int .i64 b, .string s2, .slice A2 k2 c2]] w5 fun e w' => e = .returned (.bool x) ∧ Below w5.heap.size w5 w') := Lib.hid (by rw [← HX.out]; exact of_tree hi5)
  have HST := Lib.hid hst
  have HW5 := Lib.hid hw5
  have H5 := Lib.hid (And.intro hx5 hb5)
  go_upto_region 4 with fail
  rw [← hL, ← hw5]
  clear hE5 hS5 hb35 hi5 hx5 hb5 hst hw5 z0 z1 z2 z3 hL
  have z0 := cell_of_block H5.out.1 0
  have z1 := cell_of_block H5.out.1 1
  have z2 := cell_of_block H5.out.1 2
  have z3 := cell_of_block H5.out.1 3
  simp at z0 z1 z2 z3
  go_wp2_with fail
  refine COF.out.mono ?_; rintro e w6 ⟨rfl, hb6⟩
  clear z0 z1 z2 z3
  obtain ⟨w7, hw7⟩ : ∃ w7, w7 = w6.alloc (.cells #[.string s, .slice none 0 0, .slice (some ⟨L + 1, 0, none⟩) 1 1] 38) := ⟨_, rfl⟩
  have hF7 : w7.heap[w6.heap.size]? = some (.cells #[.string s, .slice none 0 0, .slice (some ⟨L + 1, 0, none⟩) 1 1] 38 (0, 0)) := by rw [hw7]; exact heap_new _ _
  have hb7 : Below w5.heap.size w5 w7 := by rw [hw7]; exact hb6.alloc hb6.size _
  obtain ⟨F, hFF⟩ : ∃ F, F = w6.heap.size := ⟨_, rfl⟩
  rw [← hFF] at hF7
  have CK1 : Hid (Calls Try.prog 11 #[.agg #[.slice (some ⟨F, 0, none⟩) 1 1, .slice none 0 0]] w7 fun e w' => e = .returned (.int .i64 v1) ∧ Below w7.heap.size w7 w') := Lib.hid (by
    rw [← HF.out]
    exact check_any ⟨[⟨s, [], [retT tp]⟩], []⟩ (funcs_one (v := ⟨s, none, 0, 0, some ⟨L + 1, 0, none⟩, 1, 1⟩) hF7 (lt_of_heap hF7) ⟨rfl, HS.out, rfl, strs_nil _ _, rfl, HST.out w7 hb7⟩) (stmts_nil _ _) (fun k hk => hk))
  have CK2 : Hid (∀ wx, Below w7.heap.size w7 wx → Calls Try.prog 11 #[.agg #[.slice none 0 0, .slice (some ⟨L + 1, 0, none⟩) 1 1]] wx fun e w' => e = .returned (.int .i64 v2) ∧ Below wx.heap.size wx w') := Lib.hid (fun wx hb => by
    rw [← HM.out]
    exact check_any ⟨[], [retT tp]⟩ (funcs_nil _ _) (HST.out wx (bel_trans hb7 hb)) (fun k hk => hk))
  have HB7 := Lib.hid hb7
  clear hF7 hb7 hb6
  go_wp2_with fail
  rw [← hFF, ← hw7]
  clear hFF hw7
  refine CK1.out.mono ?_; rintro e w8 ⟨rfl, hb8⟩
  have HB8 : Hid (Below w7.heap.size w7 w8) := Lib.hid hb8
  clear hb8
  have CK3 : Hid (Calls Try.prog 11 #[.agg #[.slice none 0 0, .slice (some ⟨L + 1, 0, none⟩) 1 1]] w8 fun e w' => e = .returned (.int .i64 v2) ∧ Below w8.heap.size w8 w') := Lib.hid (CK2.out w8 HB8.out)
  clear CK1 CK2 CPL COF
  have HFB : Hid (∀ w9, Below w8.heap.size w8 w9 → Below b0 w w9) := Lib.hid (fun w9 hb => H5.out.2.trans ((bel_trans HB7.out (bel_trans HB8.out hb)).mono (by have := lt_of_heap H5.out.1; omega)))
  cases x with
  | false =>
    obtain rfl : v2 = 0 := by rw [← HV2.out]; rfl
    obtain rfl : v1 = 0 := by rw [← HV1.out]; simp
    go_wp2_with fail
    refine CK3.out.mono ?_; rintro e w9 ⟨rfl, hb9⟩
    have HFIN := Lib.hid (HFB.out w9 hb9)
    clear hb9
    go_wp2_with fail
    go_ret
    exact ⟨rfl, HFIN.out⟩
  | true =>
    obtain rfl : v2 = 5 := by rw [← HV2.out]; rfl
    cases g with
    | false =>
      obtain rfl : v1 = 5 := by rw [← HV1.out]; rfl
      go_wp2_with fail
      refine CK3.out.mono ?_; rintro e w9 ⟨rfl, hb9⟩
      have HFIN := Lib.hid (HFB.out w9 hb9)
      clear hb9
      go_wp2_with fail
      refine (secret_any _ _).mono ?_; rintro e w10 ⟨rfl, rfl⟩
      rw [HG.out]
      go_wp2_with fail
      go_ret
      exact ⟨rfl, HFIN.out⟩
    | true =>
      obtain rfl : v1 = 0 := by rw [← HV1.out]; rfl
      go_wp2_with fail
      refine CK3.out.mono ?_; rintro e w9 ⟨rfl, hb9⟩
      have HFIN := Lib.hid (HFB.out w9 hb9)
      clear hb9
      go_wp2_with fail
      refine (secret_any _ _).mono ?_; rintro e w10 ⟨rfl, rfl⟩
      rw [HG.out]
      go_wp2_with fail
      go_ret
      exact ⟨rfl, HFIN.out⟩
end Go.Proofs.Ytnpmgnfohaeonaa
