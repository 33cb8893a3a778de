/- LabelParts: the walk of the law. -/
import Derived.Test.YtnpmgnfohaeonaaLabShown
import Derived.Deep.CutRange
import Derived.Deep.CutBlock
namespace Go.Proofs.Ytnpmgnfohaeonaa
set_option linter.unusedVariables false
set_option linter.unusedSimpArgs false
open Go.RowKit

theorem Exprs.take {w : World} {X : Nat → Prop} {A : Option Addr} {c : Nat} {l : List ExprT} (h : Exprs w X A c l) (k : Nat) : Exprs w X A c (l.take k) := by
  obtain ⟨f, h1, h2⟩ := h
  have hl : (l.take k).length ≤ l.length := by rw [List.length_take]; omega
  refine ⟨f, ⟨Nat.le_trans hl h1.le, Nat.le_trans hl h1.max, fun h0 => ?_⟩, fun j x hx => h2 j x ?_⟩
  · obtain ⟨b, off, e, hx⟩ := h1.at_ (by omega)
    exact ⟨b, off, e, fun j hj => hx j (by omega)⟩
  · have hj := (List.getElem?_eq_some_iff.1 hx).1
    rw [List.length_take] at hj
    rwa [List.getElem?_take_of_lt (by omega)] at hx
theorem secE_two (op : Int) (n : Int) (nm : ByteArray) (a b : ExprT) (h5 : op ≠ 5) (h2 : op ≠ 2) (h4 : op ≠ 4) : secE (.mk op n nm [a, b]) = (secE a || secE b) := by rw [secE_eq]; simp [h5, h2, h4]
theorem secE_one (n : Int) (nm : ByteArray) (a : ExprT) : secE (.mk 6 n nm [a]) = secE a := by rw [secE_eq]; simp
theorem secE_call (n : Int) (nm : ByteArray) (l : List ExprT) : secE (.mk 5 n nm l) = great nm := by rw [secE_eq]; simp
theorem secE_index (n : Int) (nm : ByteArray) (a : ExprT) : secE (.mk 4 n nm [a]) = (great nm || secE a) := by rw [secE_eq]; simp

set_option maxHeartbeats 16000000 in
set_option maxRecDepth 100000 in
theorem labelParts_walk (ta : ExprT) (ca : List Value) (tb : ExprT) (cb : List Value) (op : Int) (s : ByteArray) (w : World) (ha : IsExpr w (Lt w) ta ca) (hb : IsExpr w (Lt w) tb cb) (hop : (Lit.int .i64 op).wf = true) (hs : s.size ≤ 140737488351232) :
    Calls Try.prog 7 #[.agg ca.toArray, .agg cb.toArray, .int .i64 op, .string s] w fun e w' => e = .returned (.bool true) ∧ Below w.heap.size w w' := by
  suffices hs : ∀ w0, w0 = w → Calls Try.prog 7 #[.agg ca.toArray, .agg cb.toArray, .int .i64 op, .string s] w fun e w' => e = .returned (.bool true) ∧ Below w0.heap.size w0 w' from hs w rfl
  intro w0 hw0
  have hta0 : IsExpr w0 (Lt w0) ta ca := by rw [hw0]; exact ha
  have htb0 : IsExpr w0 (Lt w0) tb cb := by rw [hw0]; exact hb
  have HTA0 := Lib.hid hta0
  have HTB0 := Lib.hid htb0
  have HW := Lib.hid hw0
  have HS := Lib.hid hs
  clear hw0 hta0 htb0 hs
  obtain ⟨x, hx⟩ : ∃ x, secE ta = x := ⟨_, rfl⟩
  obtain ⟨y, hy⟩ : ∃ y, secE tb = y := ⟨_, rfl⟩
  have HX := Lib.hid hx
  have HY := Lib.hid hy
  clear hx hy
  obtain ⟨o1, n1, s1, A1, k1, c1, rfl⟩ : ∃ o1 n1 s1 A1 k1 c1, ca = [.int .i64 o1, .int .i64 n1, .string s1, .slice A1 k1 c1] := by cases ha; exact ⟨_, _, _, _, _, _, rfl⟩
  obtain ⟨o2, n2, s2, A2, k2, c2, rfl⟩ : ∃ o1 n1 s1 A1 k1 c1, cb = [.int .i64 o1, .int .i64 n1, .string s1, .slice A1 k1 c1] := by cases hb; exact ⟨_, _, _, _, _, _, rfl⟩
  have HTA := HTA0
  have HTB := HTB0
  clear ha hb HTA0 HTB0
  show Calls Try.prog 7 #[.agg #[.int .i64 o1, .int .i64 n1, .string s1, .slice A1 k1 c1], .agg #[.int .i64 o2, .int .i64 n2, .string s2, .slice A2 k2 c2], .int .i64 op, .string s] w _
  obtain ⟨m, hm⟩ : ∃ m, bits .and .i64 op 65535 = m := ⟨_, rfl⟩
  have hm0 : 0 ≤ m ∧ m ≤ 65535 := by rw [← hm, and_mask16]; omega
  obtain ⟨hm0, hm1⟩ := hm0
  have hr0 : 0 ≤ m % 9 ∧ m % 9 ≤ 8 := by omega
  obtain ⟨hr0, hr1⟩ := hr0
  obtain ⟨g, hg⟩ : ∃ g, great s = g := ⟨_, rfl⟩
  have HG := Lib.hid hg
  unfold great at hg
  by_cases h : 0 < s.size
  · rw [dif_pos h] at hg
    have h1 : ¬ s.toList = [] := fun e => by rw [toList_nil_iff] at e; omega
    have h2 : (!s.toList.isEmpty) = true := by cases hs : s.toList with
      | nil => exact absurd hs h1
      | cons a b => rfl
    by_cases h3 : (65 : Int) ≤ ((s[0].toNat : Nat) : Int)
    · by_cases h4 : ((s[0].toNat : Nat) : Int) ≤ (90 : Int)
      · obtain rfl : g = true := by rw [← hg, decide_eq_true h3, decide_eq_true h4]; rfl
        clear hg
        go_enter Try.func7, Try.ntmps7
        go_wp2_with fail
        refine (shown_any _).mono ?_; rintro e w1 ⟨rfl, hb1⟩
        have hkA : w1.heap[w.heap.size]? = some (.cells #[.int .i64 o1, .int .i64 n1, .string s1, .slice A1 k1 c1] 28 (0, 0)) := (Below.chg hb1).heap (heap_old (heap_new _ _)) (fun x => x)
        have hkB : w1.heap[w.heap.size + 1]? = some (.cells #[.int .i64 o2, .int .i64 n2, .string s2, .slice A2 k2 c2] 28 (0, 0)) := (Below.chg hb1).heap (heap_new' (by simp)) (fun x => x)
        have HB1 : Hid (Below w0.heap.size w0 w1) := Lib.hid (by rw [HW.out]; exact (((Below.refl _ w).alloc (Nat.le_refl _) _).alloc (by simp) _).trans (hb1.mono (by simp; omega)))
        have HKA := Lib.hid (And.intro hkA hkB)
        clear hb1 hkA hkB
        obtain ⟨L, hL⟩ : ∃ L, L = w1.heap.size := ⟨_, rfl⟩
        have a0 := cell_of_block HKA.out.1 0
        have a1 := cell_of_block HKA.out.1 1
        have a2 := cell_of_block HKA.out.1 2
        have a3 := cell_of_block HKA.out.1 3
        have b0 := cell_of_block HKA.out.2 0
        have b1 := cell_of_block HKA.out.2 1
        have b2 := cell_of_block HKA.out.2 2
        have b3 := cell_of_block HKA.out.2 3
        simp at a0 a1 a2 a3 b0 b1 b2 b3
        go_upto_region 4 with fail
        rw [← hL]
        obtain ⟨wl, hwl⟩ : ∃ wl, wl = w1.alloc (.cells #[.int .i64 o1, .int .i64 n1, .string s1, .slice A1 k1 c1, .int .i64 o2, .int .i64 n2, .string s2, .slice A2 k2 c2] 28) := ⟨_, rfl⟩
        rw [← hwl]
        have hcl : Chg (fun _ => False) w1 wl := by rw [hwl]; exact (Chg.refl _ _).alloc _
        have HKL := Lib.hid (And.intro (hcl.heap HKA.out.1 (fun x => x)) (hcl.heap HKA.out.2 (fun x => x)))
        have HBL : Hid (Below w0.heap.size w0 wl) := Lib.hid (bel_trans HB1.out hcl.to_below)
        have hta : IsExpr wl (Lt wl) ta [.int .i64 o1, .int .i64 n1, .string s1, .slice A1 k1 c1] := (HTA.out.keep HBL.out).mono (fun k hk => Nat.lt_of_lt_of_le hk HBL.out.size)
        have htb : IsExpr wl (Lt wl) tb [.int .i64 o2, .int .i64 n2, .string s2, .slice A2 k2 c2] := (HTB.out.keep HBL.out).mono (fun k hk => Nat.lt_of_lt_of_le hk HBL.out.size)
        have hrow : wl.heap[L]? = some (.cells #[.int .i64 o1, .int .i64 n1, .string s1, .slice A1 k1 c1, .int .i64 o2, .int .i64 n2, .string s2, .slice A2 k2 c2] 28 (0, 0)) := by rw [hwl]; exact heap_new' hL.symm
        have hex : Exprs wl (Lt wl) (some ⟨L, 0, none⟩) 2 [ta, tb] := exprs_two (ds := [.int .i64 o1, .int .i64 n1, .string s1, .slice A1 k1 c1]) (es := [.int .i64 o2, .int .i64 n2, .string s2, .slice A2 k2 c2]) hrow (lt_of_heap hrow) rfl hta htb
        have C2 : Hid (∀ wx, Below wl.heap.size wl wx → ∀ (op : Int) (nm : ByteArray), nm.size ≤ 140737488351232 → Calls Try.prog 13 #[.agg #[.int .i64 op, .int .i64 0, .string nm, .slice (some ⟨L, 0, none⟩) 2 2]] wx fun e w' => e = .returned (.bool (secE (.mk op 0 nm [ta, tb]))) ∧ Below wx.heap.size wx w') := Lib.hid (fun wx hb op nm hn => of_tree (isExpr_of (A := some ⟨L, 0, none⟩) (c := 2) (k := 2) hn (hex.keep hb) rfl))
        have C1 : Hid (∀ wx, Below wl.heap.size wl wx → ∀ (op : Int) (nm : ByteArray), nm.size ≤ 140737488351232 → Calls Try.prog 13 #[.agg #[.int .i64 op, .int .i64 0, .string nm, .slice (some ⟨L, 0, none⟩) 1 2]] wx fun e w' => e = .returned (.bool (secE (.mk op 0 nm [ta]))) ∧ Below wx.heap.size wx w') := Lib.hid (fun wx hb op nm hn => of_tree (isExpr_of (A := some ⟨L, 0, none⟩) (c := 2) (k := 1) hn ((hex.take 1).keep hb) rfl))
        have CA : Hid (∀ wx, Below wl.heap.size wl wx → Calls Try.prog 13 #[.agg #[.int .i64 o1, .int .i64 n1, .string s1, .slice A1 k1 c1]] wx fun e w' => e = .returned (.bool (secE ta)) ∧ Below wx.heap.size wx w') := Lib.hid (fun wx hb => of_tree (hta.keep hb))
        have CB : Hid (∀ wx, Below wl.heap.size wl wx → Calls Try.prog 13 #[.agg #[.int .i64 o2, .int .i64 n2, .string s2, .slice A2 k2 c2]] wx fun e w' => e = .returned (.bool (secE tb)) ∧ Below wx.heap.size wx w') := Lib.hid (fun wx hb => of_tree (htb.keep hb))
        clear a0 a1 a2 a3 b0 b1 b2 b3 hcl hwl hta htb hrow hex HKA HB1 hL
        go_wp2_with fail
        refine (C2.out _ (Below.refl _ _) _ ⟨#[]⟩ (by decide)).mono ?_; rintro e w2 ⟨rfl, hb2⟩
        rw [secE_two _ _ _ _ _ (by omega) (by omega) (by omega), HX.out, HY.out]
        go_wp2_with fail
        refine (C1.out _ hb2 _ ⟨#[]⟩ (by decide)).mono ?_; rintro e w3 ⟨rfl, hb3⟩
        rw [secE_one, HX.out]
        go_wp2_with fail
        have hb3' := bel_trans hb2 hb3
        refine (C2.out _ hb3' _ s HS.out).mono ?_; rintro e w4 ⟨rfl, hb4⟩
        rw [secE_call, HG.out]
        go_wp2_with fail
        have hb4' := bel_trans hb3' hb4
        refine (C1.out _ hb4' _ s HS.out).mono ?_; rintro e w5 ⟨rfl, hb5⟩
        rw [secE_index, HG.out, HX.out]
        have hb5' := bel_trans hb4' hb5
        have hk5 := (Below.chg hb5').heap HKL.out.1 (fun x => x)
        have a0 := cell_of_block hk5 0
        have a1 := cell_of_block hk5 1
        have a2 := cell_of_block hk5 2
        have a3 := cell_of_block hk5 3
        simp at a0 a1 a2 a3
        go_wp2_with fail
        refine (CA.out _ hb5').mono ?_; rintro e w6 ⟨rfl, hb6⟩
        rw [HX.out]
        have hb6' := bel_trans hb5' hb6
        have hk6 := (Below.chg hb6').heap HKL.out.2 (fun x => x)
        have b0 := cell_of_block hk6 0
        have b1 := cell_of_block hk6 1
        have b2 := cell_of_block hk6 2
        have b3 := cell_of_block hk6 3
        simp at b0 b1 b2 b3
        clear a0 a1 a2 a3 hk5
        go_wp2_with fail
        refine (CB.out _ hb6').mono ?_; rintro e w7 ⟨rfl, hb7⟩
        rw [HY.out]
        have HFIN : Hid (Below w0.heap.size w0 w7) := Lib.hid (bel_trans HBL.out (bel_trans hb6' hb7))
        clear b0 b1 b2 b3 hk6 hb2 hb3 hb4 hb5 hb6 hb7 hb3' hb4' hb5' hb6'
        cases x <;> cases y
        all_goals
          go_wp2_with fail
          go_ret
          first
            | exact ⟨rfl, HFIN.out⟩
            | (refine ⟨?_, HFIN.out⟩; show Ending.returned (Value.bool _) = _; rw [decide_eq_false (by omega)]; rfl)
            | (refine ⟨?_, HFIN.out⟩; show Ending.returned (Value.bool _) = _; rw [decide_eq_true (by omega)]; rfl)
      · obtain rfl : g = false := by rw [← hg, decide_eq_false h4, Bool.and_false]
        clear hg
        go_enter Try.func7, Try.ntmps7
        go_wp2_with fail
        refine (shown_any _).mono ?_; rintro e w1 ⟨rfl, hb1⟩
        have hkA : w1.heap[w.heap.size]? = some (.cells #[.int .i64 o1, .int .i64 n1, .string s1, .slice A1 k1 c1] 28 (0, 0)) := (Below.chg hb1).heap (heap_old (heap_new _ _)) (fun x => x)
        have hkB : w1.heap[w.heap.size + 1]? = some (.cells #[.int .i64 o2, .int .i64 n2, .string s2, .slice A2 k2 c2] 28 (0, 0)) := (Below.chg hb1).heap (heap_new' (by simp)) (fun x => x)
        have HB1 : Hid (Below w0.heap.size w0 w1) := Lib.hid (by rw [HW.out]; exact (((Below.refl _ w).alloc (Nat.le_refl _) _).alloc (by simp) _).trans (hb1.mono (by simp; omega)))
        have HKA := Lib.hid (And.intro hkA hkB)
        clear hb1 hkA hkB
        obtain ⟨L, hL⟩ : ∃ L, L = w1.heap.size := ⟨_, rfl⟩
        have a0 := cell_of_block HKA.out.1 0
        have a1 := cell_of_block HKA.out.1 1
        have a2 := cell_of_block HKA.out.1 2
        have a3 := cell_of_block HKA.out.1 3
        have b0 := cell_of_block HKA.out.2 0
        have b1 := cell_of_block HKA.out.2 1
        have b2 := cell_of_block HKA.out.2 2
        have b3 := cell_of_block HKA.out.2 3
        simp at a0 a1 a2 a3 b0 b1 b2 b3
        go_upto_region 4 with fail
        rw [← hL]
        obtain ⟨wl, hwl⟩ : ∃ wl, wl = w1.alloc (.cells #[.int .i64 o1, .int .i64 n1, .string s1, .slice A1 k1 c1, .int .i64 o2, .int .i64 n2, .string s2, .slice A2 k2 c2] 28) := ⟨_, rfl⟩
        rw [← hwl]
        have hcl : Chg (fun _ => False) w1 wl := by rw [hwl]; exact (Chg.refl _ _).alloc _
        have HKL := Lib.hid (And.intro (hcl.heap HKA.out.1 (fun x => x)) (hcl.heap HKA.out.2 (fun x => x)))
        have HBL : Hid (Below w0.heap.size w0 wl) := Lib.hid (bel_trans HB1.out hcl.to_below)
        have hta : IsExpr wl (Lt wl) ta [.int .i64 o1, .int .i64 n1, .string s1, .slice A1 k1 c1] := (HTA.out.keep HBL.out).mono (fun k hk => Nat.lt_of_lt_of_le hk HBL.out.size)
        have htb : IsExpr wl (Lt wl) tb [.int .i64 o2, .int .i64 n2, .string s2, .slice A2 k2 c2] := (HTB.out.keep HBL.out).mono (fun k hk => Nat.lt_of_lt_of_le hk HBL.out.size)
        have hrow : wl.heap[L]? = some (.cells #[.int .i64 o1, .int .i64 n1, .string s1, .slice A1 k1 c1, .int .i64 o2, .int .i64 n2, .string s2, .slice A2 k2 c2] 28 (0, 0)) := by rw [hwl]; exact heap_new' hL.symm
        have hex : Exprs wl (Lt wl) (some ⟨L, 0, none⟩) 2 [ta, tb] := exprs_two (ds := [.int .i64 o1, .int .i64 n1, .string s1, .slice A1 k1 c1]) (es := [.int .i64 o2, .int .i64 n2, .string s2, .slice A2 k2 c2]) hrow (lt_of_heap hrow) rfl hta htb
        have C2 : Hid (∀ wx, Below wl.heap.size wl wx → ∀ (op : Int) (nm : ByteArray), nm.size ≤ 140737488351232 → Calls Try.prog 13 #[.agg #[.int .i64 op, .int .i64 0, .string nm, .slice (some ⟨L, 0, none⟩) 2 2]] wx fun e w' => e = .returned (.bool (secE (.mk op 0 nm [ta, tb]))) ∧ Below wx.heap.size wx w') := Lib.hid (fun wx hb op nm hn => of_tree (isExpr_of (A := some ⟨L, 0, none⟩) (c := 2) (k := 2) hn (hex.keep hb) rfl))
        have C1 : Hid (∀ wx, Below wl.heap.size wl wx → ∀ (op : Int) (nm : ByteArray), nm.size ≤ 140737488351232 → Calls Try.prog 13 #[.agg #[.int .i64 op, .int .i64 0, .string nm, .slice (some ⟨L, 0, none⟩) 1 2]] wx fun e w' => e = .returned (.bool (secE (.mk op 0 nm [ta]))) ∧ Below wx.heap.size wx w') := Lib.hid (fun wx hb op nm hn => of_tree (isExpr_of (A := some ⟨L, 0, none⟩) (c := 2) (k := 1) hn ((hex.take 1).keep hb) rfl))
        have CA : Hid (∀ wx, Below wl.heap.size wl wx → Calls Try.prog 13 #[.agg #[.int .i64 o1, .int .i64 n1, .string s1, .slice A1 k1 c1]] wx fun e w' => e = .returned (.bool (secE ta)) ∧ Below wx.heap.size wx w') := Lib.hid (fun wx hb => of_tree (hta.keep hb))
        have CB : Hid (∀ wx, Below wl.heap.size wl wx → Calls Try.prog 13 #[.agg #[.int .i64 o2, .int .i64 n2, .string s2, .slice A2 k2 c2]] wx fun e w' => e = .returned (.bool (secE tb)) ∧ Below wx.heap.size wx w') := Lib.hid (fun wx hb => of_tree (htb.keep hb))
        clear a0 a1 a2 a3 b0 b1 b2 b3 hcl hwl hta htb hrow hex HKA HB1 hL
        go_wp2_with fail
        refine (C2.out _ (Below.refl _ _) _ ⟨#[]⟩ (by decide)).mono ?_; rintro e w2 ⟨rfl, hb2⟩
        rw [secE_two _ _ _ _ _ (by omega) (by omega) (by omega), HX.out, HY.out]
        go_wp2_with fail
        refine (C1.out _ hb2 _ ⟨#[]⟩ (by decide)).mono ?_; rintro e w3 ⟨rfl, hb3⟩
        rw [secE_one, HX.out]
        go_wp2_with fail
        have hb3' := bel_trans hb2 hb3
        refine (C2.out _ hb3' _ s HS.out).mono ?_; rintro e w4 ⟨rfl, hb4⟩
        rw [secE_call, HG.out]
        go_wp2_with fail
        have hb4' := bel_trans hb3' hb4
        refine (C1.out _ hb4' _ s HS.out).mono ?_; rintro e w5 ⟨rfl, hb5⟩
        rw [secE_index, HG.out, HX.out]
        have hb5' := bel_trans hb4' hb5
        have hk5 := (Below.chg hb5').heap HKL.out.1 (fun x => x)
        have a0 := cell_of_block hk5 0
        have a1 := cell_of_block hk5 1
        have a2 := cell_of_block hk5 2
        have a3 := cell_of_block hk5 3
        simp at a0 a1 a2 a3
        go_wp2_with fail
        refine (CA.out _ hb5').mono ?_; rintro e w6 ⟨rfl, hb6⟩
        rw [HX.out]
        have hb6' := bel_trans hb5' hb6
        have hk6 := (Below.chg hb6').heap HKL.out.2 (fun x => x)
        have b0 := cell_of_block hk6 0
        have b1 := cell_of_block hk6 1
        have b2 := cell_of_block hk6 2
        have b3 := cell_of_block hk6 3
        simp at b0 b1 b2 b3
        clear a0 a1 a2 a3 hk5
        go_wp2_with fail
        refine (CB.out _ hb6').mono ?_; rintro e w7 ⟨rfl, hb7⟩
        rw [HY.out]
        have HFIN : Hid (Below w0.heap.size w0 w7) := Lib.hid (bel_trans HBL.out (bel_trans hb6' hb7))
        clear b0 b1 b2 b3 hk6 hb2 hb3 hb4 hb5 hb6 hb7 hb3' hb4' hb5' hb6'
        cases x <;> cases y
        all_goals
          go_wp2_with fail
          go_ret
          first
            | exact ⟨rfl, HFIN.out⟩
            | (refine ⟨?_, HFIN.out⟩; show Ending.returned (Value.bool _) = _; rw [decide_eq_false (by omega)]; rfl)
            | (refine ⟨?_, HFIN.out⟩; show Ending.returned (Value.bool _) = _; rw [decide_eq_true (by omega)]; rfl)
    · obtain rfl : g = false := by rw [← hg, decide_eq_false h3, Bool.false_and]
      clear hg
      go_enter Try.func7, Try.ntmps7
      go_wp2_with fail
      refine (shown_any _).mono ?_; rintro e w1 ⟨rfl, hb1⟩
      have hkA : w1.heap[w.heap.size]? = some (.cells #[.int .i64 o1, .int .i64 n1, .string s1, .slice A1 k1 c1] 28 (0, 0)) := (Below.chg hb1).heap (heap_old (heap_new _ _)) (fun x => x)
      have hkB : w1.heap[w.heap.size + 1]? = some (.cells #[.int .i64 o2, .int .i64 n2, .string s2, .slice A2 k2 c2] 28 (0, 0)) := (Below.chg hb1).heap (heap_new' (by simp)) (fun x => x)
      have HB1 : Hid (Below w0.heap.size w0 w1) := Lib.hid (by rw [HW.out]; exact (((Below.refl _ w).alloc (Nat.le_refl _) _).alloc (by simp) _).trans (hb1.mono (by simp; omega)))
      have HKA := Lib.hid (And.intro hkA hkB)
      clear hb1 hkA hkB
      obtain ⟨L, hL⟩ : ∃ L, L = w1.heap.size := ⟨_, rfl⟩
      have a0 := cell_of_block HKA.out.1 0
      have a1 := cell_of_block HKA.out.1 1
      have a2 := cell_of_block HKA.out.1 2
      have a3 := cell_of_block HKA.out.1 3
      have b0 := cell_of_block HKA.out.2 0
      have b1 := cell_of_block HKA.out.2 1
      have b2 := cell_of_block HKA.out.2 2
      have b3 := cell_of_block HKA.out.2 3
      simp at a0 a1 a2 a3 b0 b1 b2 b3
      go_upto_region 4 with fail
      rw [← hL]
      obtain ⟨wl, hwl⟩ : ∃ wl, wl = w1.alloc (.cells #[.int .i64 o1, .int .i64 n1, .string s1, .slice A1 k1 c1, .int .i64 o2, .int .i64 n2, .string s2, .slice A2 k2 c2] 28) := ⟨_, rfl⟩
      rw [← hwl]
      have hcl : Chg (fun _ => False) w1 wl := by rw [hwl]; exact (Chg.refl _ _).alloc _
      have HKL := Lib.hid (And.intro (hcl.heap HKA.out.1 (fun x => x)) (hcl.heap HKA.out.2 (fun x => x)))
      have HBL : Hid (Below w0.heap.size w0 wl) := Lib.hid (bel_trans HB1.out hcl.to_below)
      have hta : IsExpr wl (Lt wl) ta [.int .i64 o1, .int .i64 n1, .string s1, .slice A1 k1 c1] := (HTA.out.keep HBL.out).mono (fun k hk => Nat.lt_of_lt_of_le hk HBL.out.size)
      have htb : IsExpr wl (Lt wl) tb [.int .i64 o2, .int .i64 n2, .string s2, .slice A2 k2 c2] := (HTB.out.keep HBL.out).mono (fun k hk => Nat.lt_of_lt_of_le hk HBL.out.size)
      have hrow : wl.heap[L]? = some (.cells #[.int .i64 o1, .int .i64 n1, .string s1, .slice A1 k1 c1, .int .i64 o2, .int .i64 n2, .string s2, .slice A2 k2 c2] 28 (0, 0)) := by rw [hwl]; exact heap_new' hL.symm
      have hex : Exprs wl (Lt wl) (some ⟨L, 0, none⟩) 2 [ta, tb] := exprs_two (ds := [.int .i64 o1, .int .i64 n1, .string s1, .slice A1 k1 c1]) (es := [.int .i64 o2, .int .i64 n2, .string s2, .slice A2 k2 c2]) hrow (lt_of_heap hrow) rfl hta htb
      have C2 : Hid (∀ wx, Below wl.heap.size wl wx → ∀ (op : Int) (nm : ByteArray), nm.size ≤ 140737488351232 → Calls Try.prog 13 #[.agg #[.int .i64 op, .int .i64 0, .string nm, .slice (some ⟨L, 0, none⟩) 2 2]] wx fun e w' => e = .returned (.bool (secE (.mk op 0 nm [ta, tb]))) ∧ Below wx.heap.size wx w') := Lib.hid (fun wx hb op nm hn => of_tree (isExpr_of (A := some ⟨L, 0, none⟩) (c := 2) (k := 2) hn (hex.keep hb) rfl))
      have C1 : Hid (∀ wx, Below wl.heap.size wl wx → ∀ (op : Int) (nm : ByteArray), nm.size ≤ 140737488351232 → Calls Try.prog 13 #[.agg #[.int .i64 op, .int .i64 0, .string nm, .slice (some ⟨L, 0, none⟩) 1 2]] wx fun e w' => e = .returned (.bool (secE (.mk op 0 nm [ta]))) ∧ Below wx.heap.size wx w') := Lib.hid (fun wx hb op nm hn => of_tree (isExpr_of (A := some ⟨L, 0, none⟩) (c := 2) (k := 1) hn ((hex.take 1).keep hb) rfl))
      have CA : Hid (∀ wx, Below wl.heap.size wl wx → Calls Try.prog 13 #[.agg #[.int .i64 o1, .int .i64 n1, .string s1, .slice A1 k1 c1]] wx fun e w' => e = .returned (.bool (secE ta)) ∧ Below wx.heap.size wx w') := Lib.hid (fun wx hb => of_tree (hta.keep hb))
      have CB : Hid (∀ wx, Below wl.heap.size wl wx → Calls Try.prog 13 #[.agg #[.int .i64 o2, .int .i64 n2, .string s2, .slice A2 k2 c2]] wx fun e w' => e = .returned (.bool (secE tb)) ∧ Below wx.heap.size wx w') := Lib.hid (fun wx hb => of_tree (htb.keep hb))
      clear a0 a1 a2 a3 b0 b1 b2 b3 hcl hwl hta htb hrow hex HKA HB1 hL
      go_wp2_with fail
      refine (C2.out _ (Below.refl _ _) _ ⟨#[]⟩ (by decide)).mono ?_; rintro e w2 ⟨rfl, hb2⟩
      rw [secE_two _ _ _ _ _ (by omega) (by omega) (by omega), HX.out, HY.out]
      go_wp2_with fail
      refine (C1.out _ hb2 _ ⟨#[]⟩ (by decide)).mono ?_; rintro e w3 ⟨rfl, hb3⟩
      rw [secE_one, HX.out]
      go_wp2_with fail
      have hb3' := bel_trans hb2 hb3
      refine (C2.out _ hb3' _ s HS.out).mono ?_; rintro e w4 ⟨rfl, hb4⟩
      rw [secE_call, HG.out]
      go_wp2_with fail
      have hb4' := bel_trans hb3' hb4
      refine (C1.out _ hb4' _ s HS.out).mono ?_; rintro e w5 ⟨rfl, hb5⟩
      rw [secE_index, HG.out, HX.out]
      have hb5' := bel_trans hb4' hb5
      have hk5 := (Below.chg hb5').heap HKL.out.1 (fun x => x)
      have a0 := cell_of_block hk5 0
      have a1 := cell_of_block hk5 1
      have a2 := cell_of_block hk5 2
      have a3 := cell_of_block hk5 3
      simp at a0 a1 a2 a3
      go_wp2_with fail
      refine (CA.out _ hb5').mono ?_; rintro e w6 ⟨rfl, hb6⟩
      rw [HX.out]
      have hb6' := bel_trans hb5' hb6
      have hk6 := (Below.chg hb6').heap HKL.out.2 (fun x => x)
      have b0 := cell_of_block hk6 0
      have b1 := cell_of_block hk6 1
      have b2 := cell_of_block hk6 2
      have b3 := cell_of_block hk6 3
      simp at b0 b1 b2 b3
      clear a0 a1 a2 a3 hk5
      go_wp2_with fail
      refine (CB.out _ hb6').mono ?_; rintro e w7 ⟨rfl, hb7⟩
      rw [HY.out]
      have HFIN : Hid (Below w0.heap.size w0 w7) := Lib.hid (bel_trans HBL.out (bel_trans hb6' hb7))
      clear b0 b1 b2 b3 hk6 hb2 hb3 hb4 hb5 hb6 hb7 hb3' hb4' hb5' hb6'
      cases x <;> cases y
      all_goals
        go_wp2_with fail
        go_ret
        first
          | exact ⟨rfl, HFIN.out⟩
          | (refine ⟨?_, HFIN.out⟩; show Ending.returned (Value.bool _) = _; rw [decide_eq_false (by omega)]; rfl)
          | (refine ⟨?_, HFIN.out⟩; show Ending.returned (Value.bool _) = _; rw [decide_eq_true (by omega)]; rfl)
  · rw [dif_neg h] at hg
    have h1 : s.toList = [] := (toList_nil_iff s).2 (by omega)
    subst hg
    clear h
    go_enter Try.func7, Try.ntmps7
    go_wp2_with fail
    refine (shown_any _).mono ?_; rintro e w1 ⟨rfl, hb1⟩
    have hkA : w1.heap[w.heap.size]? = some (.cells #[.int .i64 o1, .int .i64 n1, .string s1, .slice A1 k1 c1] 28 (0, 0)) := (Below.chg hb1).heap (heap_old (heap_new _ _)) (fun x => x)
    have hkB : w1.heap[w.heap.size + 1]? = some (.cells #[.int .i64 o2, .int .i64 n2, .string s2, .slice A2 k2 c2] 28 (0, 0)) := (Below.chg hb1).heap (heap_new' (by simp)) (fun x => x)
    have HB1 : Hid (Below w0.heap.size w0 w1) := Lib.hid (by rw [HW.out]; exact (((Below.refl _ w).alloc (Nat.le_refl _) _).alloc (by simp) _).trans (hb1.mono (by simp; omega)))
    have HKA := Lib.hid (And.intro hkA hkB)
    clear hb1 hkA hkB
    obtain ⟨L, hL⟩ : ∃ L, L = w1.heap.size := ⟨_, rfl⟩
    have a0 := cell_of_block HKA.out.1 0
    have a1 := cell_of_block HKA.out.1 1
    have a2 := cell_of_block HKA.out.1 2
    have a3 := cell_of_block HKA.out.1 3
    have b0 := cell_of_block HKA.out.2 0
    have b1 := cell_of_block HKA.out.2 1
    have b2 := cell_of_block HKA.out.2 2
    have b3 := cell_of_block HKA.out.2 3
    simp at a0 a1 a2 a3 b0 b1 b2 b3
    go_upto_region 4 with fail
    rw [← hL]
    obtain ⟨wl, hwl⟩ : ∃ wl, wl = w1.alloc (.cells #[.int .i64 o1, .int .i64 n1, .string s1, .slice A1 k1 c1, .int .i64 o2, .int .i64 n2, .string s2, .slice A2 k2 c2] 28) := ⟨_, rfl⟩
    rw [← hwl]
    have hcl : Chg (fun _ => False) w1 wl := by rw [hwl]; exact (Chg.refl _ _).alloc _
    have HKL := Lib.hid (And.intro (hcl.heap HKA.out.1 (fun x => x)) (hcl.heap HKA.out.2 (fun x => x)))
    have HBL : Hid (Below w0.heap.size w0 wl) := Lib.hid (bel_trans HB1.out hcl.to_below)
    have hta : IsExpr wl (Lt wl) ta [.int .i64 o1, .int .i64 n1, .string s1, .slice A1 k1 c1] := (HTA.out.keep HBL.out).mono (fun k hk => Nat.lt_of_lt_of_le hk HBL.out.size)
    have htb : IsExpr wl (Lt wl) tb [.int .i64 o2, .int .i64 n2, .string s2, .slice A2 k2 c2] := (HTB.out.keep HBL.out).mono (fun k hk => Nat.lt_of_lt_of_le hk HBL.out.size)
    have hrow : wl.heap[L]? = some (.cells #[.int .i64 o1, .int .i64 n1, .string s1, .slice A1 k1 c1, .int .i64 o2, .int .i64 n2, .string s2, .slice A2 k2 c2] 28 (0, 0)) := by rw [hwl]; exact heap_new' hL.symm
    have hex : Exprs wl (Lt wl) (some ⟨L, 0, none⟩) 2 [ta, tb] := exprs_two (ds := [.int .i64 o1, .int .i64 n1, .string s1, .slice A1 k1 c1]) (es := [.int .i64 o2, .int .i64 n2, .string s2, .slice A2 k2 c2]) hrow (lt_of_heap hrow) rfl hta htb
    have C2 : Hid (∀ wx, Below wl.heap.size wl wx → ∀ (op : Int) (nm : ByteArray), nm.size ≤ 140737488351232 → Calls Try.prog 13 #[.agg #[.int .i64 op, .int .i64 0, .string nm, .slice (some ⟨L, 0, none⟩) 2 2]] wx fun e w' => e = .returned (.bool (secE (.mk op 0 nm [ta, tb]))) ∧ Below wx.heap.size wx w') := Lib.hid (fun wx hb op nm hn => of_tree (isExpr_of (A := some ⟨L, 0, none⟩) (c := 2) (k := 2) hn (hex.keep hb) rfl))
    have C1 : Hid (∀ wx, Below wl.heap.size wl wx → ∀ (op : Int) (nm : ByteArray), nm.size ≤ 140737488351232 → Calls Try.prog 13 #[.agg #[.int .i64 op, .int .i64 0, .string nm, .slice (some ⟨L, 0, none⟩) 1 2]] wx fun e w' => e = .returned (.bool (secE (.mk op 0 nm [ta]))) ∧ Below wx.heap.size wx w') := Lib.hid (fun wx hb op nm hn => of_tree (isExpr_of (A := some ⟨L, 0, none⟩) (c := 2) (k := 1) hn ((hex.take 1).keep hb) rfl))
    have CA : Hid (∀ wx, Below wl.heap.size wl wx → Calls Try.prog 13 #[.agg #[.int .i64 o1, .int .i64 n1, .string s1, .slice A1 k1 c1]] wx fun e w' => e = .returned (.bool (secE ta)) ∧ Below wx.heap.size wx w') := Lib.hid (fun wx hb => of_tree (hta.keep hb))
    have CB : Hid (∀ wx, Below wl.heap.size wl wx → Calls Try.prog 13 #[.agg #[.int .i64 o2, .int .i64 n2, .string s2, .slice A2 k2 c2]] wx fun e w' => e = .returned (.bool (secE tb)) ∧ Below wx.heap.size wx w') := Lib.hid (fun wx hb => of_tree (htb.keep hb))
    clear a0 a1 a2 a3 b0 b1 b2 b3 hcl hwl hta htb hrow hex HKA HB1 hL
    go_wp2_with fail
    refine (C2.out _ (Below.refl _ _) _ ⟨#[]⟩ (by decide)).mono ?_; rintro e w2 ⟨rfl, hb2⟩
    rw [secE_two _ _ _ _ _ (by omega) (by omega) (by omega), HX.out, HY.out]
    go_wp2_with fail
    refine (C1.out _ hb2 _ ⟨#[]⟩ (by decide)).mono ?_; rintro e w3 ⟨rfl, hb3⟩
    rw [secE_one, HX.out]
    go_wp2_with fail
    have hb3' := bel_trans hb2 hb3
    refine (C2.out _ hb3' _ s HS.out).mono ?_; rintro e w4 ⟨rfl, hb4⟩
    rw [secE_call, HG.out]
    go_wp2_with fail
    have hb4' := bel_trans hb3' hb4
    refine (C1.out _ hb4' _ s HS.out).mono ?_; rintro e w5 ⟨rfl, hb5⟩
    rw [secE_index, HG.out, HX.out]
    have hb5' := bel_trans hb4' hb5
    have hk5 := (Below.chg hb5').heap HKL.out.1 (fun x => x)
    have a0 := cell_of_block hk5 0
    have a1 := cell_of_block hk5 1
    have a2 := cell_of_block hk5 2
    have a3 := cell_of_block hk5 3
    simp at a0 a1 a2 a3
    go_wp2_with fail
    refine (CA.out _ hb5').mono ?_; rintro e w6 ⟨rfl, hb6⟩
    rw [HX.out]
    have hb6' := bel_trans hb5' hb6
    have hk6 := (Below.chg hb6').heap HKL.out.2 (fun x => x)
    have b0 := cell_of_block hk6 0
    have b1 := cell_of_block hk6 1
    have b2 := cell_of_block hk6 2
    have b3 := cell_of_block hk6 3
    simp at b0 b1 b2 b3
    clear a0 a1 a2 a3 hk5
    go_wp2_with fail
    refine (CB.out _ hb6').mono ?_; rintro e w7 ⟨rfl, hb7⟩
    rw [HY.out]
    have HFIN : Hid (Below w0.heap.size w0 w7) := Lib.hid (bel_trans HBL.out (bel_trans hb6' hb7))
    clear b0 b1 b2 b3 hk6 hb2 hb3 hb4 hb5 hb6 hb7 hb3' hb4' hb5' hb6'
    cases x <;> cases y
    all_goals
      go_wp2_with fail
      go_ret
      first
        | exact ⟨rfl, HFIN.out⟩
        | (refine ⟨?_, HFIN.out⟩; show Ending.returned (Value.bool _) = _; rw [decide_eq_false (by omega)]; rfl)
        | (refine ⟨?_, HFIN.out⟩; show Ending.returned (Value.bool _) = _; rw [decide_eq_true (by omega)]; rfl)
end Go.Proofs.Ytnpmgnfohaeonaa
