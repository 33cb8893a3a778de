/- law14: shown. -/
import Derived.Test.YtdpimkbdieafgaaDoorIntS
namespace Go.Proofs.YtdpimkbdieafgaaDoor
set_option linter.unusedVariables false
set_option linter.unusedSimpArgs false
open Go.RowKit

theorem src_block {w : World} {G : Nat} {l : List InsR} {n : Nat} (hn : n = l.length) (h : w.heap[G]? = some (.cells (insCells l).toArray 44 (0, 0))) (hm : n ≤ maxLen) : Src w (.slice (some ⟨G, 0, none⟩) n n) n (insCells l) :=
  .inr ⟨G, 0, n, rfl, lt_of_heap h, Nat.le_refl _, hm, fun j u hu => by rw [Nat.zero_add, cell_of_block h]; simpa using hu⟩
theorem numsrc_nil (w : World) : NumSrc w (.slice none 0 0) [] := ⟨none, 0, rfl, Nat.le_refl _, by simp [maxLen], fun h => by cases h⟩
theorem numsrc_one {w : World} {G : Nat} {x : Int} {t : TypeId} (h : w.heap[G]? = some (.cells #[.int .i64 x] t (0, 0))) : NumSrc w (.slice (some ⟨G, 0, none⟩) 1 1) [x] :=
  ⟨_, 1, rfl, Nat.le_refl _, by simp [maxLen], fun _ => ⟨G, 0, rfl, fun j y hy => by
    have hj : j = 0 := by have := (List.getElem?_eq_some_iff.1 hy).1; simp at this; exact this
    subst hj
    injection hy with hy
    subst hy
    rw [cell_of_block h]
    rfl⟩⟩
theorem outIs_keep {w w' : World} {v : Value} {o : OutR} (h : OutIs w v o) (hb : Below w.heap.size w w') : OutIs w' v o := by
  obtain ⟨P, K, C, e, h1, h2, h3⟩ := h
  exact ⟨P, K, C, e, h1.keep hb, h2.keep hb, h3.keep hb⟩
theorem outIs_shape {w : World} {v : Value} {o : OutR} (h : OutIs w v o) : ∃ AP cP AK cK AC cC, v = .agg #[.slice AP o.pr.length cP, .slice AK o.ke.length cK, .slice AC o.cl.length cC, .int .i64 o.clk, .int .i64 o.res, .int .i64 o.err] ∧ NumSrc w (.slice AP o.pr.length cP) o.pr ∧ NumSrc w (.slice AK o.ke.length cK) o.ke ∧ NumSrc w (.slice AC o.cl.length cC) o.cl := by
  obtain ⟨P, K, C, e, h1, h2, h3⟩ := h
  obtain ⟨AP, cP, rfl⟩ := h1.shape
  obtain ⟨AK, cK, rfl⟩ := h2.shape
  obtain ⟨AC, cC, rfl⟩ := h3.shape
  exact ⟨_, _, _, _, _, _, e, h1, h2, h3⟩

set_option maxHeartbeats 8000000 in
set_option maxRecDepth 100000 in
theorem shown_any {w : World} (h : SortsIs w) : Calls Tryd.prog 10 #[] w fun e w' => e = .returned (.bool true) ∧ Below w.heap.size w w' := by
  have HS := Lib.hid h
  clear h
  obtain ⟨wa, hwa⟩ : ∃ z, z = w.alloc (.cells #[.int .i64 1, .int .i64 0, .int .i64 1, .int .i64 1, .int .i64 0, .int .i64 2, .int .i64 6, .int .i64 0, .int .i64 0, .int .i64 19, .int .i64 0, .int .i64 0, .int .i64 1, .int .i64 0, .int .i64 0, .int .i64 18, .int .i64 0, .int .i64 0] 44) := ⟨_, rfl⟩
  obtain ⟨G, hG⟩ : ∃ z, z = w.heap.size := ⟨_, rfl⟩
  obtain ⟨wb, hwb⟩ : ∃ z, z = wa.alloc (.cells #[.string ⟨#[]⟩, .int .i64 0, .int .i64 0, .int .i64 0, .slice (some ⟨G, 0, none⟩) 6 6] 46) := ⟨_, rfl⟩
  obtain ⟨P, hP⟩ : ∃ z, z = wa.heap.size := ⟨_, rfl⟩
  obtain ⟨w0, hw0⟩ : ∃ z, z = wb.alloc (.cells #[.slice (some ⟨P, 0, none⟩) 1 1] 24) := ⟨_, rfl⟩
  obtain ⟨Q, hQ⟩ : ∃ z, z = wb.heap.size := ⟨_, rfl⟩
  have eP : P = G + 1 := by rw [hP, hwa, hG]; show (w.heap.push _).size = _; exact Array.size_push _
  have eQ : Q = G + 1 + 1 := by rw [hQ, hwb]; show (wa.heap.push _).size = _; rw [Array.size_push, ← hP, eP]
  have ca : Chg (fun _ => False) w wa := by rw [hwa]; exact (Chg.refl _ _).alloc _
  have cb : Chg (fun _ => False) wa wb := by rw [hwb]; exact (Chg.refl _ _).alloc _
  have c0 : Chg (fun _ => False) wb w0 := by rw [hw0]; exact (Chg.refl _ _).alloc _
  have xG : w0.heap[G]? = some (.cells #[.int .i64 1, .int .i64 0, .int .i64 1, .int .i64 1, .int .i64 0, .int .i64 2, .int .i64 6, .int .i64 0, .int .i64 0, .int .i64 19, .int .i64 0, .int .i64 0, .int .i64 1, .int .i64 0, .int .i64 0, .int .i64 18, .int .i64 0, .int .i64 0] 44 (0, 0)) := (cb.then c0).heap (by rw [hwa]; exact heap_new' hG.symm) (fun x => x)
  have xP : w0.heap[P]? = some (.cells #[.string ⟨#[]⟩, .int .i64 0, .int .i64 0, .int .i64 0, .slice (some ⟨G, 0, none⟩) 6 6] 46 (0, 0)) := c0.heap (by rw [hwb]; exact heap_new' hP.symm) (fun x => x)
  have xQ : w0.heap[Q]? = some (.cells #[.slice (some ⟨P, 0, none⟩) 1 1] 24 (0, 0)) := by rw [hw0]; exact heap_new' hQ.symm
  have b0 : Below w.heap.size w w0 := ((ca.then cb).then c0).below (fun k h => h.elim) (Nat.le_refl _)
  have hsrc : Src w0 (.slice (some ⟨G, 0, none⟩) 6 6) 6 (insCells shL) := src_block (l := shL) rfl (by rw [xG]; rfl) (by simp [maxLen])
  have hfs : FnsIs w0 (.slice (some ⟨P, 0, none⟩) 1 1) shF := by
    refine .inr ⟨P, 0, 1, rfl, lt_of_heap xP, Nat.le_refl _, by simp [maxLen], fun j f hf => ?_⟩
    have hj : j = 0 := by have := (List.getElem?_eq_some_iff.1 hf).1; simp [shF] at this; exact this
    subst hj
    injection hf with hf
    subst hf
    have z0 := cell_of_block xP 0
    have z1 := cell_of_block xP 1
    have z2 := cell_of_block xP 2
    have z3 := cell_of_block xP 3
    have z4 := cell_of_block xP 4
    exact ⟨_, _, ⟨z0, z1, z2, z3, z4⟩, hsrc⟩
  have y0 := cell_of_block xQ 0
  simp at y0
  have hl : ∀ f ∈ shF, f.l.length ≤ 1048576 := fun f hf => by
    have e : f = ⟨⟨#[]⟩, 0, 0, 0, shL⟩ := by simpa [shF] using hf
    subst e
    decide
  have C1 := Lib.hid (run_any (w := w0) (A := some ⟨P, 0, none⟩) (c := 1) (fs := shF) (fuel := 11) (quota := 0) (HS.out.keep b0) hfs (by decide) hl (numsrc_nil w0) (numsrc_nil w0) (by decide))
  have HWE := Lib.hid (And.intro hwa (And.intro hwb (And.intro hw0 (And.intro eQ (And.intro eP hG)))))
  have HB0 := Lib.hid b0
  have HFS := Lib.hid hfs
  have HL := Lib.hid hl
  have HXQ := Lib.hid xQ
  clear hwa hwb hw0 hG hP hQ eP eQ ca cb c0 xG xP xQ b0 hsrc hfs hl
  rw [show shF.length = 1 from rfl] at C1
  go_enter Tryd.func10, Tryd.ntmps10
  go_upto_region 3 with fail
  rw [← HWE.out.2.2.2.2.2, ← HWE.out.1, ← HWE.out.2.2.2.1, ← HWE.out.2.2.2.2.1, ← HWE.out.2.1, ← HWE.out.2.2.1]
  go_wp2_with fail
  refine C1.out.mono ?_; rintro e w1 ⟨v1, o1, rfl, ho1, hr1, hb1, _⟩
  obtain ⟨g1, hk1, hg1⟩ := sh_run1
  obtain rfl : o1 = ⟨[3], [], [], 11, 0, 0⟩ := by rw [hr1.is shF_ok hk1]; exact hg1
  obtain ⟨AP1, cP1, AK1, cK1, AC1, cC1, rfl, hp1, _, _⟩ := outIs_shape ho1
  simp only [List.length_singleton, List.length_nil] at hp1 ⊢
  obtain ⟨wA, hwA⟩ : ∃ z, z = w1.alloc (.cells #[.slice AP1 1 cP1, .slice AK1 0 cK1, .slice AC1 0 cC1, .int .i64 11, .int .i64 0, .int .i64 0] 32) := ⟨_, rfl⟩
  obtain ⟨BA, hBA⟩ : ∃ z, z = w1.heap.size := ⟨_, rfl⟩
  have bA : Below w.heap.size w wA := by rw [hwA]; exact (bel_trans HB0.out hb1).alloc (bel_trans HB0.out hb1).size _
  have hb1A : Below w1.heap.size w1 wA := by rw [hwA]; exact (Below.refl _ _).alloc (Nat.le_refl _) _
  have xA : wA.heap[BA]? = some (.cells #[.slice AP1 1 cP1, .slice AK1 0 cK1, .slice AC1 0 cC1, .int .i64 11, .int .i64 0, .int .i64 0] 32 (0, 0)) := by rw [hwA]; exact heap_new' hBA.symm
  have b0A : Below w0.heap.size w0 wA := by rw [hwA]; exact hb1.alloc hb1.size _
  have xQA := (Below.chg b0A).heap HXQ.out (fun x => x)
  have C2 := Lib.hid (run_any (w := wA) (A := some ⟨P, 0, none⟩) (c := 1) (fs := shF) (fuel := 10) (quota := 0) (HS.out.keep bA) (HFS.out.keep b0A) (by decide) HL.out (numsrc_nil wA) (numsrc_nil wA) (by decide))
  rw [show shF.length = 1 from rfl] at C2
  have y0 := cell_of_block xQA 0
  simp at y0
  have HA := Lib.hid (And.intro hwA hBA)
  have HXA := Lib.hid (And.intro xA (And.intro bA (hp1.keep hb1A)))
  clear C1 hk1 hg1 ho1 hr1 hp1 hwA hBA bA hb1A xA b0A xQA hb1
  go_upto_region 4 with fail
  rw [← HA.out.1, ← HA.out.2]
  go_wp2_with fail
  refine C2.out.mono ?_; rintro e w2 ⟨v2, o2, rfl, ho2, hr2, hb2, _⟩
  obtain ⟨g2, hk2, hg2⟩ := sh_run2
  obtain rfl : o2 = ⟨[3], [], [], 11, 0, 8⟩ := by rw [hr2.is shF_ok hk2]; exact hg2
  obtain ⟨AP2, cP2, AK2, cK2, AC2, cC2, rfl, hp2, _, _⟩ := outIs_shape ho2
  simp only [List.length_singleton, List.length_nil] at hp2 ⊢
  obtain ⟨wB, hwB⟩ : ∃ z, z = w2.alloc (.cells #[.slice AP2 1 cP2, .slice AK2 0 cK2, .slice AC2 0 cC2, .int .i64 11, .int .i64 0, .int .i64 8] 32) := ⟨_, rfl⟩
  obtain ⟨BB, hBB⟩ : ∃ z, z = w2.heap.size := ⟨_, rfl⟩
  have bB : Below w.heap.size w wB := by rw [hwB]; exact (bel_trans HXA.out.2.1 hb2).alloc (bel_trans HXA.out.2.1 hb2).size _
  have hb2B : Below w2.heap.size w2 wB := by rw [hwB]; exact (Below.refl _ _).alloc (Nat.le_refl _) _
  have hbAB : Below wA.heap.size wA wB := by rw [hwB]; exact hb2.alloc hb2.size _
  have xB : wB.heap[BB]? = some (.cells #[.slice AP2 1 cP2, .slice AK2 0 cK2, .slice AC2 0 cC2, .int .i64 11, .int .i64 0, .int .i64 8] 32 (0, 0)) := by rw [hwB]; exact heap_new' hBB.symm
  have xAB := (Below.chg hbAB).heap HXA.out.1 (fun x => x)
  have C3 := Lib.hid (run_any (w := wB) (A := none) (c := 0) (fs := []) (fuel := 10) (quota := 0) (HS.out.keep bB) (.inl ⟨rfl, none, 0, rfl⟩) (by decide) (fun f hf => by cases hf) (numsrc_nil wB) (numsrc_nil wB) (by decide))
  rw [show ([] : List FnR).length = 0 from rfl] at C3
  have HA := Lib.hid (And.intro hwB hBB)
  have HXB := Lib.hid (And.intro xB (And.intro bB (And.intro (hp2.keep hb2B) (And.intro xAB (HXA.out.2.2.keep hbAB)))))
  clear C2 hk2 hg2 ho2 hr2 hp2 hwB hBB bB hb2B xB hbAB xAB hb2 y0
  go_upto_region 5 with fail
  rw [← HA.out.1, ← HA.out.2]
  go_wp2_with fail
  refine C3.out.mono ?_; rintro e w3 ⟨v3, o3, rfl, ho3, hr3, hb3, _⟩
  obtain rfl : o3 = ⟨[], [], [], 0, 0, 6⟩ := hr3.no noF_no
  obtain ⟨AP3, cP3, AK3, cK3, AC3, cC3, rfl, _, _, _⟩ := outIs_shape ho3
  simp only [List.length_singleton, List.length_nil]
  obtain ⟨wC, hwC⟩ : ∃ z, z = w3.alloc (.cells #[.slice AP3 0 cP3, .slice AK3 0 cK3, .slice AC3 0 cC3, .int .i64 0, .int .i64 0, .int .i64 6] 32) := ⟨_, rfl⟩
  obtain ⟨BC, hBC⟩ : ∃ z, z = w3.heap.size := ⟨_, rfl⟩
  have bC : Below w.heap.size w wC := by rw [hwC]; exact (bel_trans HXB.out.2.1 hb3).alloc (bel_trans HXB.out.2.1 hb3).size _
  have hbBC : Below wB.heap.size wB wC := by rw [hwC]; exact hb3.alloc hb3.size _
  have xC : wC.heap[BC]? = some (.cells #[.slice AP3 0 cP3, .slice AK3 0 cK3, .slice AC3 0 cC3, .int .i64 0, .int .i64 0, .int .i64 6] 32 (0, 0)) := by rw [hwC]; exact heap_new' hBC.symm
  have xA := (Below.chg hbBC).heap HXB.out.2.2.2.1 (fun x => x)
  have xB := (Below.chg hbBC).heap HXB.out.1 (fun x => x)
  have HP := Lib.hid (And.intro (HXB.out.2.2.2.2.keep hbBC) (HXB.out.2.2.1.keep hbBC))
  have HC := Lib.hid (And.intro hwC hBC)
  -- the first comparison
  obtain ⟨wD, hwD⟩ : ∃ z, z = wC.alloc (.cells #[.int .i64 3] 2) := ⟨_, rfl⟩
  obtain ⟨BD, hBD⟩ : ∃ z, z = wC.heap.size := ⟨_, rfl⟩
  have cD : Chg (fun _ => False) wC wD := by rw [hwD]; exact (Chg.refl _ _).alloc _
  have bCD : Below wC.heap.size wC wD := cD.below (fun k h => h.elim) (Nat.le_refl _)
  have xD : wD.heap[BD]? = some (.cells #[.int .i64 3] 2 (0, 0)) := by rw [hwD]; exact heap_new' hBD.symm
  have R1 := rows_any (HP.out.1.keep bCD) (numsrc_one xD)
  rw [decide_eq_true rfl] at R1
  have RR1 := Lib.hid R1
  have HD := Lib.hid (And.intro hwD (And.intro hBD (And.intro bCD bC)))
  have yA := cD.heap xA (fun x => x)
  have yB := cD.heap xB (fun x => x)
  have yC := cD.heap xC (fun x => x)
  have p0 := cell_of_block xA 0
  have HY := Lib.hid (And.intro yA (And.intro yB yC))
  have q3 := cell_of_block yA 3
  have q5 := cell_of_block yA 5
  have r0 := cell_of_block yB 0
  simp at p0 q3 q5 r0
  clear C3 ho3 hr3 hb3 hwC hBC bC hbBC xC xA xB hwD hBD cD bCD xD R1 yA yB yC
  go_upto_region 6 with fail
  rw [← HC.out.1, ← HC.out.2]
  go_wp2_with fail
  rw [← HD.out.1, ← HD.out.2.1]
  refine RR1.out.mono ?_; rintro e w4 ⟨rfl, k1, rfl⟩
  obtain ⟨wE, hwE⟩ : ∃ z, z = (wD.drewN k1).alloc (.cells #[.int .i64 3] 2) := ⟨_, rfl⟩
  obtain ⟨BE, hBE⟩ : ∃ z, z = wD.heap.size := ⟨_, rfl⟩
  have cE : Chg (fun _ => False) wD wE := by rw [hwE]; exact ((Chg.refl _ _).drewN k1).alloc _
  have bDE : Below wD.heap.size wD wE := cE.below (fun k h => h.elim) (Nat.le_refl _)
  have xE : wE.heap[BE]? = some (.cells #[.int .i64 3] 2 (0, 0)) := by rw [hwE]; exact heap_new' (w := wD.drewN k1) hBE.symm
  have bCE := bel_trans HD.out.2.2.1 bDE
  have R2 := rows_any (HP.out.2.keep bCE) (numsrc_one xE)
  rw [decide_eq_true rfl] at R2
  have RR2 := Lib.hid R2
  have yB := cE.heap HY.out.2.1 (fun x => x)
  have yC := cE.heap HY.out.2.2 (fun x => x)
  have s3 := cell_of_block yB 3
  have s5 := cell_of_block yB 5
  have u5 := cell_of_block yC 5
  simp at s3 s5 u5
  have HE := Lib.hid (And.intro hwE (And.intro hBE (bel_trans HD.out.2.2.2 bCE)))
  clear hwE hBE cE bDE xE bCE R2 yB yC p0 RR1
  go_wp2_with fail
  rw [← HE.out.1, ← HE.out.2.1]
  refine RR2.out.mono ?_; rintro e w5 ⟨rfl, k2, rfl⟩
  go_wp2_with fail
  go_ret
  exact ⟨rfl, belowN HE.out.2.2 _⟩
end Go.Proofs.YtdpimkbdieafgaaDoor
