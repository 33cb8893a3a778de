/- law17: what must be in any case. -/
import Derived.Test.YtpjpndndpcebcaaDoorSpecRef
namespace Go.Proofs.YtpjpndndpcebcaaDoor
set_option linter.unusedVariables false
set_option linter.unusedSimpArgs false
open Go.RowKit

theorem src_block {w : World} {G : Nat} {l : List InsR} {n : Nat} (hn : n = l.length) (h : w.heap[G]? = some (.cells (insCells l).toArray 39 (0, 0))) (hm : n ≤ maxLen) : Src w (.slice (some ⟨G, 0, none⟩) n n) n (insCells l) :=
  .inr ⟨G, 0, n, rfl, lt_of_heap h, Nat.le_refl _, hm, fun j u hu => by rw [Nat.zero_add, cell_of_block h]; simpa using hu⟩
def shL : List InsR := [⟨2, 0, 0⟩, ⟨1, 0, 3⟩, ⟨8, 0, 0⟩, ⟨18, 0, 0⟩]
set_option maxRecDepth 100000 in
theorem forL : forv shL 1 0 5 = [⟨1, 0, 15⟩, ⟨18, 0, 0⟩] := by decide +kernel
set_option maxRecDepth 100000 in
theorem foldL : foldv shL = shL := by decide +kernel
theorem fixL : fixedv 1 0 shL = true := by decide +kernel
theorem fixL2 : fixedv 1 0 (shL ++ [(⟨3, 0, 0⟩ : InsR)]) = false := by decide +kernel
theorem wfL : ∀ x ∈ shL, WfI x := fun x hx => ⟨(show ∀ x ∈ shL, -9223372036854775808 ≤ x.a ∧ x.a ≤ 9223372036854775807 from by decide) x hx⟩
theorem small_of (l : List InsR) (h : ∀ x ∈ l, 1 ≤ x.op ∧ x.op ≤ 25 ∧ 0 ≤ x.a ∧ x.a < 100 ∧ 0 ≤ x.n ∧ x.n < 100) : ∀ x ∈ l, Small x := fun x hx => by
  obtain ⟨a, b, c, d, e, f⟩ := h x hx
  exact ⟨a, b, c, d, e, f⟩
theorem dig {u : Nat} (h : u < 10) : Lib.decDigits u = [UInt8.ofNat (48 + u)] := by rw [Lib.decDigits, dif_pos h]
theorem dig15 : Lib.decDigits 15 = [49, 53] := by rw [Lib.decDigits, dif_neg (by decide), dig (by decide)]; decide
theorem textA : (textL [⟨1, 0, 15⟩, ⟨18, 0, 0⟩] 2).toArray = #[48, 32, 112, 117, 115, 104, 32, 49, 53, 10, 49, 32, 114, 101, 116, 117, 114, 110, 10] := by
  simp [textL, lineOf, lineL, lineW, sortOf, sorts, dig, dig15]
  decide +kernel
theorem textB : (textL shL 4).toArray = #[48, 32, 108, 111, 97, 100, 32, 48, 10, 49, 32, 112, 117, 115, 104, 32, 51, 10, 50, 32, 109, 117, 108, 10, 51, 32, 114, 101, 116, 117, 114, 110, 10] := by
  simp [shL, textL, lineOf, lineL, lineW, sortOf, sorts, dig]
  decide +kernel

set_option maxHeartbeats 4000000 in
set_option maxRecDepth 100000 in
theorem shown_any {w : World} (h : SortsIs w) : Calls Tryd.prog 5 #[] w fun e w' => e = .returned (.bool true) ∧ Below w.heap.size w w' := by
  have HS := Lib.hid h
  clear h
  obtain ⟨i0, hi, hz0, hz1, hz2⟩ := info_parts infoIns
  obtain ⟨G, hG⟩ : ∃ G, G = w.heap.size := ⟨_, rfl⟩
  obtain ⟨P, hP⟩ : ∃ P, P = w.heap.size + 1 := ⟨_, rfl⟩
  obtain ⟨w0, hw0⟩ : ∃ w0, w0 = (w.alloc (.cells #[.int .i64 2, .int .i64 0, .int .i64 0, .int .i64 1, .int .i64 0, .int .i64 3, .int .i64 8, .int .i64 0, .int .i64 0, .int .i64 18, .int .i64 0, .int .i64 0] 39)).alloc (.cells #[.string ⟨#[]⟩, .int .i64 1, .int .i64 1, .int .i64 0, .slice (some ⟨w.heap.size, 0, none⟩) 4 4] 24) := ⟨_, rfl⟩
  have hb0 : Below w.heap.size w w0 := by rw [hw0]; exact ((Below.refl w.heap.size w).alloc (Nat.le_refl _) _).alloc (by simp) _
  have hg0 : w0.heap[G]? = some (.cells (insCells shL).toArray 39 (0, 0)) := by rw [hw0]; exact ((Chg.refl (fun _ => False) _).alloc _).heap (heap_new' hG.symm) (fun x => x)
  have hp0 : w0.heap[P]? = some (.cells #[.string ⟨#[]⟩, .int .i64 1, .int .i64 1, .int .i64 0, .slice (some ⟨G, 0, none⟩) 4 4] 24 (0, 0)) := by rw [hw0, hG]; exact heap_new' (by simp [hP])
  have HGP : Hid (G + 1 = P) := Lib.hid (by omega)
  have HB0 := Lib.hid hb0
  have HG0 := Lib.hid hg0
  have HP0 := Lib.hid hp0
  have HSRC : Hid (∀ w', Below w0.heap.size w0 w' → Src w' (.slice (some ⟨G, 0, none⟩) 4 4) shL.length (insCells shL)) := Lib.hid (fun w' hb => src_block rfl ((Below.chg hb).heap hg0 (fun x => x)) (by unfold maxLen; decide))
  have HPX : Hid (∀ w', Below w0.heap.size w0 w' → w'.heap[P]? = some (.cells #[.string ⟨#[]⟩, .int .i64 1, .int .i64 1, .int .i64 0, .slice (some ⟨G, 0, none⟩) 4 4] 24 (0, 0))) := Lib.hid (fun w' hb => (Below.chg hb).heap hp0 (fun x => x))
  have C1 := Lib.hid (for_any (w := w0) ⟨#[]⟩ 1 1 0 0 5 (HSRC.out w0 (Below.refl _ _)) (by decide) wfL)
  have HWE := Lib.hid (And.intro hG (And.intro hP hw0))
  clear hG hP hw0 hb0 hg0 hp0
  go_enter Tryd.func5, Tryd.ntmps5
  go_wp2_with fail
  rw [← HWE.out.2.2, ← HWE.out.1]
  refine C1.out.mono ?_; rintro e w1 ⟨v1, rfl, ho1, _, hb1⟩
  rw [HGP.out]
  rw [forL] at ho1
  have CT := Lib.hid (text_any (HS.out.keep (bel_trans HB0.out hb1)) (l := [⟨1, 0, 15⟩, ⟨18, 0, 0⟩]) (Src.of_row ho1) (by decide) (small_of _ (by decide)))
  rw [show ([⟨1, 0, 15⟩, ⟨18, 0, 0⟩] : List InsR).length = 2 from rfl, textA] at CT
  have HB1 := Lib.hid hb1
  clear ho1 hb1 C1
  go_wp2_with fail
  refine CT.out.mono ?_; rintro e w2 ⟨rfl, hb2⟩
  have HB2 := Lib.hid (bel_trans HB1.out hb2)
  clear hb2 CT
  have C2 := Lib.hid (plain_any (w := w2) ⟨#[]⟩ 1 1 0 (HSRC.out w2 HB2.out) (by decide) wfL)
  have c0 := cell_of_block (HPX.out w2 HB2.out) 0
  have c1 := cell_of_block (HPX.out w2 HB2.out) 1
  have c2 := cell_of_block (HPX.out w2 HB2.out) 2
  have c3 := cell_of_block (HPX.out w2 HB2.out) 3
  have c4 := cell_of_block (HPX.out w2 HB2.out) 4
  simp at c0 c1 c2 c3 c4
  go_wp2_with fail
  refine C2.out.mono ?_; rintro e w3 ⟨v3, rfl, ho3, _, hb3⟩
  rw [foldL] at ho3
  have CT := Lib.hid (text_any (HS.out.keep (bel_trans HB0.out (bel_trans HB2.out hb3))) (l := shL) (Src.of_row ho3) (by decide) (small_of _ (by decide)))
  rw [show shL.length = 4 from rfl, textB] at CT
  have HB3 := Lib.hid (bel_trans HB2.out hb3)
  clear ho3 hb3 C2 c0 c1 c2 c3 c4
  go_wp2_with fail
  refine CT.out.mono ?_; rintro e w4 ⟨rfl, hb4⟩
  have HB4 := Lib.hid (bel_trans HB3.out hb4)
  clear hb4 CT
  have C3 := Lib.hid (fixed_any (w := w4) ⟨#[]⟩ 1 1 0 0 (HSRC.out w4 HB4.out) (by decide))
  rw [fixL] at C3
  have c0 := cell_of_block (HPX.out w4 HB4.out) 0
  have c1 := cell_of_block (HPX.out w4 HB4.out) 1
  have c2 := cell_of_block (HPX.out w4 HB4.out) 2
  have c3 := cell_of_block (HPX.out w4 HB4.out) 3
  have c4 := cell_of_block (HPX.out w4 HB4.out) 4
  simp at c0 c1 c2 c3 c4
  go_wp2_with fail
  refine C3.out.mono ?_; rintro e w5 ⟨rfl, hb5⟩
  have HB5 := Lib.hid (bel_trans HB4.out hb5)
  clear hb5 C3 c0 c1 c2 c3 c4
  have c0 := cell_of_block (HPX.out w5 HB5.out) 0
  have c1 := cell_of_block (HPX.out w5 HB5.out) 1
  have c2 := cell_of_block (HPX.out w5 HB5.out) 2
  have c3 := cell_of_block (HPX.out w5 HB5.out) 3
  have c4 := cell_of_block (HPX.out w5 HB5.out) 4
  simp at c0 c1 c2 c3 c4
  obtain ⟨wx, hwx⟩ : ∃ wx, wx = w5.alloc (.cells #[.int .i64 3, .int .i64 0, .int .i64 0] 39) := ⟨_, rfl⟩
  have hbx : Below w0.heap.size w0 wx := by rw [hwx]; exact HB5.out.alloc HB5.out.size _
  have HROW : Hid (wx.ownsRow 0 39 3 (.slice (some ⟨G, 0, none⟩) 4 4) 4 (insCells shL)) := Lib.hid ⟨rfl, .inr ⟨G, 4, _, rfl, Nat.zero_le _, (Below.chg hbx).heap HG0.out (fun x => x), Nat.le_refl _, by unfold maxLen; decide, rfl, rfl⟩⟩
  have HNEW : Hid (∀ (j : Nat) u, ([.int .i64 3, .int .i64 0, .int .i64 0] : List Value)[j]? = some u → wx.cell? ((⟨w5.heap.size, 0, none⟩ : Addr).add j) = some u) := Lib.hid (World.news_of_block (cs := #[.int .i64 3, .int .i64 0, .int .i64 0]) (t := 39) (fr := (0, 0)) (by rw [hwx]; exact heap_new _ _))
  have HSZ : Hid (wx.heap.size = w5.heap.size + 1) := Lib.hid (by rw [hwx]; simp)
  have HPW := Lib.hid (HPX.out wx hbx)
  have HBX := Lib.hid hbx
  have HWX := Lib.hid hwx
  clear hwx hbx
  go_wp2_with (at_builtin; rw [← HWX.out]; refine wpList_append_lies _ rfl _ _ _ rfl 0 39 i0 _ 3 24 Tryd.underlying22 hi hz0 hz1 hz2 rfl (by omega) (.slice (some ⟨G, 0, none⟩) 4 4) 4 (insCells shL) rfl HROW.out ⟨w5.heap.size, 0, none⟩ 1 1 [.int .i64 3, .int .i64 0, .int .i64 0] rfl rfl HNEW.out (by simp [Value.oneCell']) (by omega) (by unfold maxLen; omega) (by omega) (by omega) (w5.heap.size + 1) HSZ.out ?_; intro g2 cap2 w6 hown6 hgrow6 hat6 hlt6; have hc6 := Chg.of_grown hgrow6; have hp6 := hc6.heap HPW.out (fun e => by (have e : some G = some P := e); injection e with e; have := HGP.out; omega); have k4 := cell_of_block hp6 4; have kf := frozen_of_block hp6 4; have HP6 := Lib.hid hp6; have k0 := cell_of_block hp6 0; have k1 := cell_of_block hp6 1; have k2 := cell_of_block hp6 2; have k3 := cell_of_block hp6 3; simp at k0 k1 k2 k3 k4; clear hp6 c0 c1 c2 c3 c4)
  have hPl : P < w5.heap.size := Nat.lt_of_lt_of_le (lt_of_heap HP0.out) HB5.out.size
  have hgP : g2 ≠ P := by
    rcases hat6 with e | e
    · have e : some G = some g2 := e
      injection e with e
      have := HGP.out
      omega
    · omega
  obtain ⟨w7, hw7⟩ : ∃ w7, w7 = w6.setCell ⟨P, 4, none⟩ (.slice (some ⟨g2, 0, none⟩) 5 cap2) := ⟨_, rfl⟩
  have hset : Chg (fun k => k = P) w6 w7 := by rw [hw7]; exact Chg.set_cell ⟨P, 4, none⟩ _
  have hrow7 : w7.ownsRow 0 39 3 (.slice (some ⟨g2, 0, none⟩) 5 cap2) (shL ++ [(⟨3, 0, 0⟩ : InsR)]).length (insCells (shL ++ [(⟨3, 0, 0⟩ : InsR)])) := ownsRow_kept hown6 hset (fun k hk e => by
    have hk : some g2 = some k := hk
    injection hk with hk
    exact hgP (hk.trans e))
  have C4 := Lib.hid (fixed_any (w := w7) ⟨#[]⟩ 1 1 0 0 (Src.of_row hrow7) (by decide))
  rw [fixL2] at C4
  have hG : w.heap.size ≤ G := by rw [HWE.out.1]; exact Nat.le_refl _
  have HB7 : Hid (Below w.heap.size w w7) := Lib.hid (by
    have hbx := bel_trans HB0.out HBX.out
    have hb6 := hbx.trans (hc6.below (B := w.heap.size) (fun k hk => by
      have hk : some G = some k := hk
      injection hk with hk
      omega) hbx.size)
    exact hb6.trans (hset.below (B := w.heap.size) (fun k hk => by have := HGP.out; omega) hb6.size))
  rw [← hw7]
  refine C4.out.mono ?_; rintro e w8 ⟨rfl, hb8⟩
  have HB8 := Lib.hid (bel_trans HB7.out hb8)
  clear hb8 hrow7 hset hw7 hown6 hgrow6 hat6 hc6 k0 k1 k2 k3 k4 kf
  go_wp2_with fail
  go_ret
  exact ⟨rfl, HB8.out⟩
end Go.Proofs.YtpjpndndpcebcaaDoor
