/- InterpArrays: the walk. -/
import Derived.Test.YtdpimkbdieafgaaDoorIntAr
import Derived.Test.YtdpimkbdieafgaaDoorInterpBounds
namespace Go.Proofs.YtdpimkbdieafgaaDoor
set_option linter.unusedVariables false
set_option linter.unusedSimpArgs false
open Go.RowKit

theorem and_mask6 (n : Int) : bits .and .i64 n 63 = n % 64 := by
  have h1 : (BitVec.ofInt 64 63).toNat = 2 ^ 6 - 1 := by decide
  have key : (BitVec.ofInt 64 n &&& BitVec.ofInt 64 63).toNat = (n % ((2 ^ 64 : Nat) : Int)).toNat % 2 ^ 6 := by
    rw [BitVec.toNat_and, BitVec.toNat_ofInt, h1, Nat.and_two_pow_sub_one_eq_mod]
  show IntKind.i64.wrap ((BitVec.ofInt 64 n &&& BitVec.ofInt 64 63).toNat : Nat) = n % 64
  rw [key, IntKind.wrap_i64]
  omega

set_option maxHeartbeats 8000000 in
set_option maxRecDepth 100000 in
theorem interpArrays_walk (W : World) (a b at0 v quota : Int) (hL : SortsIs W) (fa : (Lit.int .i64 a).wf = true) (fb : (Lit.int .i64 b).wf = true) (fat : (Lit.int .i64 at0).wf = true) (fv : (Lit.int .i64 v).wf = true) (fq : (Lit.int .i64 quota).wf = true) :
    Calls Tryd.prog 8 #[.int .i64 a, .int .i64 b, .int .i64 at0, .int .i64 v, .int .i64 quota] W fun e w' => e = .returned (.bool true) ∧ Below W.heap.size W w' := by
  obtain ⟨m1, hm1⟩ : ∃ m, bits .and .i64 a 65535 = m := ⟨_, rfl⟩
  have hm10 : 0 ≤ m1 ∧ m1 ≤ 65535 := by rw [← hm1, and_mask16]; omega
  obtain ⟨hm10, hm11⟩ := hm10
  obtain ⟨m2, hm2⟩ : ∃ m, bits .and .i64 b 65535 = m := ⟨_, rfl⟩
  have hm20 : 0 ≤ m2 ∧ m2 ≤ 65535 := by rw [← hm2, and_mask16]; omega
  obtain ⟨hm20, hm21⟩ := hm20
  obtain ⟨p, hp⟩ : ∃ p, bits .and .i64 at0 63 = p := ⟨_, rfl⟩
  have hp0 : 0 ≤ p ∧ p ≤ 63 := by rw [← hp, and_mask6]; omega
  obtain ⟨r1, hr1⟩ : ∃ r, m1 % 40 = r := ⟨_, rfl⟩
  obtain ⟨r2, hr2⟩ : ∃ r, m2 % 40 = r := ⟨_, rfl⟩
  have hr10 : 0 ≤ r1 ∧ r1 ≤ 39 := by omega
  have hr20 : 0 ≤ r2 ∧ r2 ≤ 39 := by omega
  obtain ⟨x, hx⟩ : ∃ x, 1 + r1 = x := ⟨_, rfl⟩
  obtain ⟨y, hy⟩ : ∃ y, 1 + r2 = y := ⟨_, rfl⟩
  have hx0 : 1 ≤ x ∧ x ≤ 40 := by omega
  have hy0 : 1 ≤ y ∧ y ≤ 40 := by omega
  have CS := Lib.hid (shown_any hL)
  have HL := Lib.hid hL
  clear hL
  go_enter Tryd.func8, Tryd.ntmps8
  go_wp2_with fail
  refine CS.out.mono ?_; rintro e w1 ⟨rfl, hb1⟩
  have HB1 := Lib.hid hb1
  clear CS hb1
  go_upto_region 6 with fail
  obtain ⟨wa, hwa⟩ : ∃ z, z = w1.alloc (.cells #[.int .i64 22, .int .i64 0, .int .i64 x, .int .i64 22, .int .i64 1, .int .i64 y, .int .i64 1, .int .i64 0, .int .i64 p, .int .i64 1, .int .i64 0, .int .i64 v, .int .i64 24, .int .i64 0, .int .i64 0, .int .i64 1, .int .i64 0, .int .i64 p, .int .i64 23, .int .i64 0, .int .i64 0, .int .i64 19, .int .i64 0, .int .i64 0, .int .i64 1, .int .i64 0, .int .i64 0, .int .i64 23, .int .i64 1, .int .i64 0, .int .i64 19, .int .i64 0, .int .i64 0, .int .i64 22, .int .i64 0, .int .i64 x, .int .i64 1, .int .i64 0, .int .i64 p, .int .i64 23, .int .i64 0, .int .i64 0, .int .i64 18, .int .i64 0, .int .i64 0] 44) := ⟨_, rfl⟩
  obtain ⟨G, hG⟩ : ∃ z, z = w1.heap.size := ⟨_, rfl⟩
  obtain ⟨wc, hwc⟩ : ∃ z, z = wa.alloc (.cells #[.string ⟨#[]⟩, .int .i64 0, .int .i64 0, .int .i64 2, .slice (some ⟨G, 0, none⟩) 15 15] 46) := ⟨_, rfl⟩
  obtain ⟨P, hP⟩ : ∃ z, z = wa.heap.size := ⟨_, rfl⟩
  rw [← hG, ← hwa]
  have ca : Chg (fun _ => False) w1 wa := by rw [hwa]; exact (Chg.refl _ _).alloc _
  have cc : Chg (fun _ => False) wa wc := by rw [hwc]; exact (Chg.refl _ _).alloc _
  have xG : wc.heap[G]? = some (.cells #[.int .i64 22, .int .i64 0, .int .i64 x, .int .i64 22, .int .i64 1, .int .i64 y, .int .i64 1, .int .i64 0, .int .i64 p, .int .i64 1, .int .i64 0, .int .i64 v, .int .i64 24, .int .i64 0, .int .i64 0, .int .i64 1, .int .i64 0, .int .i64 p, .int .i64 23, .int .i64 0, .int .i64 0, .int .i64 19, .int .i64 0, .int .i64 0, .int .i64 1, .int .i64 0, .int .i64 0, .int .i64 23, .int .i64 1, .int .i64 0, .int .i64 19, .int .i64 0, .int .i64 0, .int .i64 22, .int .i64 0, .int .i64 x, .int .i64 1, .int .i64 0, .int .i64 p, .int .i64 23, .int .i64 0, .int .i64 0, .int .i64 18, .int .i64 0, .int .i64 0] 44 (0, 0)) := cc.heap (by rw [hwa]; exact heap_new' hG.symm) (fun x => x)
  have xP : wc.heap[P]? = some (.cells #[.string ⟨#[]⟩, .int .i64 0, .int .i64 0, .int .i64 2, .slice (some ⟨G, 0, none⟩) 15 15] 46 (0, 0)) := by rw [hwc]; exact heap_new' hP.symm
  have b0 : Below W.heap.size W wc := bel_trans HB1.out ((ca.then cc).below (fun k h => h.elim) (Nat.le_refl _))
  have hsF : Src wc (.slice (some ⟨G, 0, none⟩) 15 15) 15 (insCells (arL x y p v)) := src_block (l := arL x y p v) rfl (by rw [xG]; rfl) (by simp [maxLen])
  have hfs : FnsIs wc (.slice (some ⟨P, 0, none⟩) 1 1) [arF x y p v] := by
    refine .inr ⟨P, 0, 1, rfl, lt_of_heap xP, Nat.le_refl _, by simp [maxLen], fun j f hf => ?_⟩
    have hj : j = 0 := by have := (List.getElem?_eq_some_iff.1 hf).1; simp at this; exact this
    subst hj
    injection hf with hf
    subst hf
    exact ⟨_, _, ⟨cell_of_block xP 0, cell_of_block xP 1, cell_of_block xP 2, cell_of_block xP 3, cell_of_block xP 4⟩, hsF⟩
  have hl : ∀ f ∈ [arF x y p v], f.l.length ≤ 1048576 := fun f hf => by
    obtain rfl : f = arF x y p v := by simpa using hf
    show (arL x y p v).length ≤ _; simp [arL]
  have CR := Lib.hid (run_any (w := wc) (A := some ⟨P, 0, none⟩) (c := 1) (fs := [arF x y p v]) (fuel := 1000) (quota := quota) (HL.out.keep b0) hfs (by simp) hl (numsrc_nil wc) (numsrc_nil wc) (by decide))
  rw [show ([arF x y p v] : List FnR).length = 1 from rfl] at CR
  have HB0 := Lib.hid b0
  have HWC := Lib.hid (And.intro hwc hP)
  clear hwa hG hwc hP ca cc xG xP b0 hsF hfs hl hm1 hm10 hm11 hm2 hm20 hm21 hp hr1 hr2 hr10 hr20 hx hy fa fb fat
  go_wp2_with fail
  rw [← HWC.out.1, ← HWC.out.2]
  refine CR.out.mono ?_; rintro e w6 ⟨vv, o, rfl, ho, hro, hb6, _⟩
  obtain ⟨r1, r2, r3, r4⟩ := runO_arrays hx0 hy0 hp0 hro
  obtain ⟨AP, cP, AK, cK, AC, cC, rfl, np, _, _⟩ := outIs_shape ho
  obtain ⟨pr, ke, cl, clk, res, err⟩ := o
  simp only at r1 r2 r3 r4 np ⊢
  obtain ⟨w7, hw7⟩ : ∃ z, z = w6.alloc (.cells #[.slice AP pr.length cP, .slice AK ke.length cK, .slice AC cl.length cC, .int .i64 clk, .int .i64 res, .int .i64 err] 32) := ⟨_, rfl⟩
  obtain ⟨BA, hBA⟩ : ∃ z, z = w6.heap.size := ⟨_, rfl⟩
  have xA : w7.heap[BA]? = some (.cells #[.slice AP pr.length cP, .slice AK ke.length cK, .slice AC cl.length cC, .int .i64 clk, .int .i64 res, .int .i64 err] 32 (0, 0)) := by rw [hw7]; exact heap_new' hBA.symm
  have b67 : Below w6.heap.size w6 w7 := by rw [hw7]; exact (Below.refl _ _).alloc (Nat.le_refl _) _
  have bW7 := bel_trans HB0.out (bel_trans hb6 b67)
  have np7 := np.keep b67
  have q0 := cell_of_block xA 0
  have q4 := cell_of_block xA 4
  have q5 := cell_of_block xA 5
  simp at q0 q4 q5
  have HW7 := Lib.hid (And.intro hw7 hBA)
  have HB7 := Lib.hid bW7
  obtain ⟨w8, hw8⟩ : ∃ z, z = w7.alloc (.cells #[.int .i64 v, .int .i64 0] 2) := ⟨_, rfl⟩
  obtain ⟨H, hH⟩ : ∃ z, z = w7.heap.size := ⟨_, rfl⟩
  have c8 : Chg (fun _ => False) w7 w8 := by rw [hw8]; exact (Chg.refl _ _).alloc _
  have xH : w8.heap[H]? = some (.cells #[.int .i64 v, .int .i64 0] 2 (0, 0)) := by rw [hw8]; exact heap_new' hH.symm
  have b78 : Below w7.heap.size w7 w8 := c8.below (fun k h => h.elim) (Nat.le_refl _)
  have bW8 := bel_trans bW7 b78
  have nl : NumSrc w8 (.slice (some ⟨H, 0, none⟩) 2 2) [v, 0] := ⟨_, 2, rfl, Nat.le_refl _, by simp [maxLen], fun _ => ⟨H, 0, rfl, fun j x hj => by
    have hj2 : j = 0 ∨ j = 1 := by have := (List.getElem?_eq_some_iff.1 hj).1; simp at this; omega
    rcases hj2 with rfl | rfl
    · injection hj with hj; subst hj; exact cell_of_block xH 0
    · injection hj with hj; subst hj; exact cell_of_block xH 1⟩⟩
  have CW0 : pr = [v, 0] → Calls Tryd.prog 18 #[.slice AP pr.length cP, .slice (some ⟨H, 0, none⟩) 2 2] w8 fun e w' => e = .returned (.bool true) ∧ ∃ k, w' = w8.drewN k := fun hpr => (rows_any (np7.keep b78) nl).mono fun e w' h => ⟨by rw [h.1, decide_eq_true hpr], h.2⟩
  have HW8 := Lib.hid (And.intro hw8 hH)
  have HB8 := Lib.hid bW8
  have z0 := c8.cell q0 (fun x => x)
  have z4 := c8.cell q4 (fun x => x)
  clear CR ho hro hb6 np hw7 hBA xA b67 bW7 np7 hw8 hH c8 xH b78 bW8 nl
  go_upto_region 7 with fail
  rw [← HW7.out.1, ← HW7.out.2]
  by_cases h1 : quota < x
  · obtain ⟨rfl, rfl⟩ := r1 (.inl h1)
    clear r1 r2 r3 r4
    go_wp2_with fail
    go_ret
    exact ⟨rfl, HB7.out⟩
  by_cases h2 : quota < x + y
  · obtain ⟨rfl, rfl⟩ := r1 (.inr h2)
    clear r1 r2 r3 r4
    go_wp2_with fail
    go_ret
    exact ⟨rfl, HB7.out⟩
  by_cases h3 : x ≤ p
  · obtain ⟨rfl, rfl⟩ := r2 h1 h2 h3
    clear r1 r2 r3 r4
    go_wp2_with fail
    go_ret
    exact ⟨rfl, HB7.out⟩
  have CW := Lib.hid CW0
  clear CW0
  by_cases h4 : quota < x + y + x
  · obtain ⟨rfl, rfl⟩ := r3 h1 h2 h3 h4
    clear r1 r2 r3 r4
    go_wp2_with fail
    rw [← HW8.out.1, ← HW8.out.2]
    refine (CW.out trivial).mono ?_; rintro e w9 ⟨rfl, k, rfl⟩
    clear q0 q4 q5 CW
    go_wp2_with fail
    go_ret
    exact ⟨rfl, HB8.out.trans (belowN (Below.refl _ _) _)⟩
  · obtain ⟨rfl, rfl, rfl⟩ := r4 h1 h2 h3 h4
    clear r1 r2 r3 r4
    go_wp2_with fail
    rw [← HW8.out.1, ← HW8.out.2]
    refine (CW.out trivial).mono ?_; rintro e w9 ⟨rfl, k, rfl⟩
    clear q0 q4 q5 CW
    go_wp2_with fail
    go_ret
    exact ⟨rfl, HB8.out.trans (belowN (Below.refl _ _) _)⟩
end Go.Proofs.YtdpimkbdieafgaaDoor
