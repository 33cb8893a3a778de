/- the fold laws: what must be in any case. -/
import Derived.Test.YtahmnmpfjgddpaaGreatDoorFoldFold
import Derived.Test.YtahmnmpfjgddpaaGreatDoorText3
namespace Go.Proofs.YtahmnmpfjgddpaaGreatDoor
set_option linter.unusedVariables false
set_option linter.unusedSimpArgs false
open Go.RowKit

theorem src_block {w : World} {G : Nat} {l : List InsR} {n : Nat} (hn : n = l.length) (h : w.heap[G]? = some (.cells (insCells l).toArray 42 (0, 0))) (hm : n ≤ maxLen) : Src w (.slice (some ⟨G, 0, none⟩) n n) n (insCells l) :=
  .inr ⟨G, 0, n, rfl, lt_of_heap h, Nat.le_refl _, hm, fun j u hu => by rw [Nat.zero_add, cell_of_block h]; simpa using hu⟩
def shA : List InsR := [⟨1, 0, 2⟩, ⟨1, 0, 3⟩, ⟨6, 0, 0⟩, ⟨19, 0, 0⟩]
def shB : List InsR := [⟨1, 0, 2⟩, ⟨1, 0, 0⟩, ⟨9, 0, 0⟩, ⟨15, 1, 0⟩]
def shC : List InsR := [⟨1, 0, 1⟩, ⟨16, 3, 0⟩, ⟨15, 3, 0⟩, ⟨15, 0, 0⟩]
set_option maxRecDepth 100000 in
theorem foldA : foldv shA = [⟨1, 0, 5⟩, ⟨19, 0, 0⟩] := by decide +kernel
set_option maxRecDepth 100000 in
theorem foldB : foldv shB = shB := by decide +kernel
set_option maxRecDepth 100000 in
theorem foldC : foldv shC = [⟨15, 0, 0⟩] := by decide +kernel
theorem dig {u : Nat} (h : u < 10) : Lib.decDigits u = [UInt8.ofNat (48 + u)] := by rw [Lib.decDigits, dif_pos h]
theorem textA : (textL [⟨1, 0, 5⟩, ⟨19, 0, 0⟩] 2).toArray = #[48, 32, 112, 117, 115, 104, 32, 53, 10, 49, 32, 112, 114, 105, 110, 116, 10] := by
  simp [textL, lineOf, lineL, lineW, sortOf, sorts, dig]
  decide +kernel
theorem textC : (textL [⟨15, 0, 0⟩] 1).toArray = #[48, 32, 106, 117, 109, 112, 32, 48, 10] := by
  simp [textL, lineOf, lineL, lineW, sortOf, sorts, dig]
  decide +kernel
theorem wfA : ∀ x ∈ shA, WfI x := fun x hx => ⟨(show ∀ x ∈ shA, -9223372036854775808 ≤ x.a ∧ x.a ≤ 9223372036854775807 from by decide) x hx⟩
theorem wfB : ∀ x ∈ shB, WfI x := fun x hx => ⟨(show ∀ x ∈ shB, -9223372036854775808 ≤ x.a ∧ x.a ≤ 9223372036854775807 from by decide) x hx⟩
theorem wfC : ∀ x ∈ shC, WfI x := fun x hx => ⟨(show ∀ x ∈ shC, -9223372036854775808 ≤ x.a ∧ x.a ≤ 9223372036854775807 from by decide) x hx⟩
theorem small_of (l : List InsR) (h : ∀ x ∈ l, 1 ≤ x.op ∧ x.op ≤ 25 ∧ 0 ≤ x.a ∧ x.a < 100 ∧ 0 ≤ x.n ∧ x.n < 100) : ∀ x ∈ l, Small x := fun x hx => by
  obtain ⟨a, b, c, d, e, f⟩ := h x hx
  exact ⟨a, b, c, d, e, f⟩

set_option maxHeartbeats 4000000 in
set_option maxRecDepth 100000 in
theorem shown16_any {w : World} (h : SortsIs w) : Calls Tryz.prog 5 #[] w fun e w' => e = .returned (.bool true) ∧ Below w.heap.size w w' := by
  have HS := Lib.hid h
  clear h
  obtain ⟨G, hG⟩ : ∃ G, G = w.heap.size := ⟨_, rfl⟩
  obtain ⟨wa, hwa⟩ : ∃ wa, wa = w.alloc (.cells #[.int .i64 1, .int .i64 0, .int .i64 2, .int .i64 1, .int .i64 0, .int .i64 3, .int .i64 6, .int .i64 0, .int .i64 0, .int .i64 19, .int .i64 0, .int .i64 0] 42) := ⟨_, rfl⟩
  have CA : Hid (Calls Tryz.prog 15 #[.slice (some ⟨G, 0, none⟩) 4 4] wa fun e w' => ∃ v', e = .returned v' ∧ w'.ownsRow 0 42 3 v' 2 (insCells [⟨1, 0, 5⟩, ⟨19, 0, 0⟩]) ∧ Below wa.heap.size wa w') := Lib.hid (by
    have hg : wa.heap[G]? = some (.cells (insCells shA).toArray 42 (0, 0)) := by rw [hwa]; exact heap_new' hG.symm
    refine (fold_any (l := shA) (src_block rfl hg (by unfold maxLen; decide)) (by decide) wfA).mono ?_
    rintro e w' ⟨v', he, ho, _, hb⟩
    rw [foldA] at ho
    exact ⟨v', he, ho, hb⟩)
  have HBA : Hid (Below w.heap.size w wa) := Lib.hid (by rw [hwa]; exact (Below.refl _ _).alloc (Nat.le_refl _) _)
  have HW := Lib.hid (And.intro hG hwa)
  clear hG hwa
  go_enter Tryz.func5, Tryz.ntmps5
  go_wp2_with fail
  rw [← HW.out.1, ← HW.out.2]
  refine CA.out.mono ?_; rintro e w1 ⟨va, rfl, hoa, hb1⟩
  have HB1 := Lib.hid (bel_trans HBA.out hb1)
  have HOA := Lib.hid hoa
  obtain ⟨_, Aa, ca, rfl⟩ := ownsRow_slice hoa
  clear hoa hb1 CA HBA HW
  obtain ⟨G, hG⟩ : ∃ G, G = w1.heap.size := ⟨_, rfl⟩
  obtain ⟨wb, hwb⟩ : ∃ wb, wb = w1.alloc (.cells #[.int .i64 1, .int .i64 0, .int .i64 2, .int .i64 1, .int .i64 0, .int .i64 0, .int .i64 9, .int .i64 0, .int .i64 0, .int .i64 15, .int .i64 1, .int .i64 0] 42) := ⟨_, rfl⟩
  have CB : Hid (Calls Tryz.prog 15 #[.slice (some ⟨G, 0, none⟩) 4 4] wb fun e w' => ∃ v', e = .returned v' ∧ w'.ownsRow 0 42 3 v' 4 (insCells shB) ∧ Below wb.heap.size wb w') := Lib.hid (by
    have hg : wb.heap[G]? = some (.cells (insCells shB).toArray 42 (0, 0)) := by rw [hwb]; exact heap_new' hG.symm
    refine (fold_any (l := shB) (src_block rfl hg (by unfold maxLen; decide)) (by decide) wfB).mono ?_
    rintro e w' ⟨v', he, ho, _, hb⟩
    rw [foldB] at ho
    exact ⟨v', he, ho, hb⟩)
  have HBB : Hid (Below w1.heap.size w1 wb) := Lib.hid (by rw [hwb]; exact (Below.refl _ _).alloc (Nat.le_refl _) _)
  have HW := Lib.hid (And.intro hG hwb)
  clear hG hwb
  go_wp2_with fail
  rw [← HW.out.1, ← HW.out.2]
  refine CB.out.mono ?_; rintro e w2 ⟨vb, rfl, hob, hb2⟩
  have HB12 := Lib.hid (bel_trans HBB.out hb2)
  obtain ⟨_, Ab, cb, rfl⟩ := ownsRow_slice hob
  clear hob hb2 CB HBB HW
  obtain ⟨G, hG⟩ : ∃ G, G = w2.heap.size := ⟨_, rfl⟩
  obtain ⟨wc, hwc⟩ : ∃ wc, wc = w2.alloc (.cells #[.int .i64 1, .int .i64 0, .int .i64 1, .int .i64 16, .int .i64 3, .int .i64 0, .int .i64 15, .int .i64 3, .int .i64 0, .int .i64 15, .int .i64 0, .int .i64 0] 42) := ⟨_, rfl⟩
  have CC : Hid (Calls Tryz.prog 15 #[.slice (some ⟨G, 0, none⟩) 4 4] wc fun e w' => ∃ v', e = .returned v' ∧ w'.ownsRow 0 42 3 v' 1 (insCells [⟨15, 0, 0⟩]) ∧ Below wc.heap.size wc w') := Lib.hid (by
    have hg : wc.heap[G]? = some (.cells (insCells shC).toArray 42 (0, 0)) := by rw [hwc]; exact heap_new' hG.symm
    refine (fold_any (l := shC) (src_block rfl hg (by unfold maxLen; decide)) (by decide) wfC).mono ?_
    rintro e w' ⟨v', he, ho, _, hb⟩
    rw [foldC] at ho
    exact ⟨v', he, ho, hb⟩)
  have HBC : Hid (Below w2.heap.size w2 wc) := Lib.hid (by rw [hwc]; exact (Below.refl _ _).alloc (Nat.le_refl _) _)
  have HW := Lib.hid (And.intro hG hwc)
  clear hG hwc
  go_wp2_with fail
  rw [← HW.out.1, ← HW.out.2]
  refine CC.out.mono ?_; rintro e w3 ⟨vc, rfl, hoc, hb3⟩
  have HB13 := Lib.hid (bel_trans HB12.out (bel_trans HBC.out hb3))
  obtain ⟨_, Ac, cc, rfl⟩ := ownsRow_slice hoc
  have HOC := Lib.hid hoc
  have HB3 := Lib.hid (bel_trans HB1.out HB13.out)
  clear hoc hb3 CC HBC HW
  have CTA : Hid (Calls Tryz.prog 16 #[.slice Aa 2 ca] w3 fun e w' => e = .returned (.string ⟨#[48, 32, 112, 117, 115, 104, 32, 53, 10, 49, 32, 112, 114, 105, 110, 116, 10]⟩) ∧ Below w3.heap.size w3 w') := Lib.hid (by
    rw [← textA]
    exact text_any (HS.out.keep HB3.out) (l := [⟨1, 0, 5⟩, ⟨19, 0, 0⟩]) (Src.of_row (ownsRow_kept HOA.out (Below.chg HB13.out) (fun _ _ x => x))) (by decide) (small_of _ (by decide)))
  have CTC : Hid (∀ wx, Below w3.heap.size w3 wx → Calls Tryz.prog 16 #[.slice Ac 1 cc] wx fun e w' => e = .returned (.string ⟨#[48, 32, 106, 117, 109, 112, 32, 48, 10]⟩) ∧ Below wx.heap.size wx w') := Lib.hid (fun wx hb => by
    rw [← textC]
    exact text_any (HS.out.keep (bel_trans HB3.out hb)) (l := [⟨15, 0, 0⟩]) (Src.of_row (ownsRow_kept HOC.out (Below.chg hb) (fun _ _ x => x))) (by decide) (small_of _ (by decide)))
  go_wp2_with fail
  refine CTA.out.mono ?_; rintro e w4 ⟨rfl, hb4⟩
  have HB4 := Lib.hid hb4
  clear hb4
  go_wp2_with fail
  refine (CTC.out _ HB4.out).mono ?_; rintro e w5 ⟨rfl, hb5⟩
  have HB5 := Lib.hid hb5
  clear hb5
  go_wp2_with fail
  go_ret
  exact ⟨rfl, bel_trans HB3.out (bel_trans HB4.out HB5.out)⟩
end Go.Proofs.YtahmnmpfjgddpaaGreatDoor
