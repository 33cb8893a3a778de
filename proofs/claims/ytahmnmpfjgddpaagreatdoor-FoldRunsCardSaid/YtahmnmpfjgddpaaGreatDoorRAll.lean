/- law16: clocks, all. -/
import Derived.Test.YtahmnmpfjgddpaaGreatDoorRParts
import Derived.Test.YtahmnmpfjgddpaaGreatDoorRunD
namespace Go.Proofs.YtahmnmpfjgddpaaGreatDoor
set_option linter.unusedVariables false
set_option linter.unusedSimpArgs false
open Go.RowKit

def clockL (l : List InsR) : Bool := l.any fun x => x.op == 25
def clocksV (fs : List FnR) : Bool := fs.any fun f => clockL f.l
theorem noClock_of {fs : List FnR} (h : clocksV fs = false) : NoClock fs := fun f hf x hx e => by
  unfold clocksV at h
  rw [List.any_eq_false] at h
  have h1 := h f hf
  unfold clockL at h1
  simp only [Bool.not_eq_true, List.any_eq_false, beq_iff_eq] at h1
  exact h1 x hx e

set_option maxHeartbeats 4000000 in
set_option maxRecDepth 100000 in
theorem clocks_any {w : World} {A : Option Addr} {n c : Nat} {fs : List FnR} (hfs : FnsIs w (.slice A n c) fs) (hn : n = fs.length) :
    Calls Tryz.prog 9 #[.agg #[.slice A n c]] w fun e w' => e = .returned (.bool (clocksV fs)) ∧ Below w.heap.size w w' := by
  have hnm : n ≤ 9223372036854775807 := by have := hfs.bound.1; unfold maxLen at this; omega
  obtain ⟨wa, hwa⟩ : ∃ z, z = w.alloc (.cells #[.slice A n c] 24) := ⟨_, rfl⟩
  obtain ⟨Q, hQ⟩ : ∃ z, z = w.heap.size := ⟨_, rfl⟩
  have hxa : wa.heap[Q]? = some (.cells #[.slice A n c] 24 (0, 0)) := by rw [hwa]; exact heap_new' hQ.symm
  have hba : Below w.heap.size w wa := by rw [hwa]; exact (Below.refl _ _).alloc (Nat.le_refl _) _
  obtain ⟨r, hr⟩ : ∃ z, z = clocksV fs := ⟨_, rfl⟩
  rw [← hr]
  have HR := Lib.hid hr
  have HB := Lib.hid hba
  have HFS := Lib.hid (hfs.keep hba)
  have HN := Lib.hid hn
  have y1 := cell_of_block hxa 0
  simp at y1
  have HW := Lib.hid (And.intro hwa hQ)
  clear hr hba hfs hn hxa hwa hQ
  go_enter Tryz.func9, Tryz.ntmps9
  go_upto_region 1 with fail
  rw [← HW.out.1, ← HW.out.2]
  go_wp2_with fail
  go_loopg [3, 4] (n + 1) (fun z i k wr => ∃ j : Nat, j ≤ n ∧ z = n + 1 - j ∧ i = .int .i64 j ∧ Hid ((fs.take j).any (fun f => clockL f.l) = false) ∧ wr = wa)
  case atStart => exact ⟨0, by omega, rfl, rfl, Lib.hid rfl, rfl⟩
  case round =>
    obtain ⟨j, hj, hz, rfl, HT, rfl⟩ := hrel
    have HZ := Lib.hid hz
    clear hz
    by_cases hlt : j < n
    · have hjf : j < fs.length := by rw [← HN.out]; exact hlt
      obtain ⟨b, off, cap, B, cB, e, hb, hcap, ⟨q0, q1, q2, q3, q4⟩, hsrc⟩ := HFS.out.get j hjf
      injection e with e1 e3 e2
      subst e1 e2
      clear e3 q0 q1 q2 q3
      obtain ⟨f, hf⟩ : ∃ f, f = fs[j] := ⟨_, rfl⟩
      have htk := List.take_succ_eq_append_getElem hjf
      rw [← hf] at q4 hsrc htk
      obtain ⟨l, hl⟩ : ∃ l, l = f.l := ⟨_, rfl⟩
      rw [← hl] at q4 hsrc
      obtain ⟨ln, hln⟩ : ∃ ln, ln = l.length := ⟨_, rfl⟩
      have hcp := hsrc.cap
      rw [← hln] at q4 hcp
      have hln63 : ln ≤ 9223372036854775807 := by have := hcp.1; unfold maxLen at this; omega
      rw [← HN.out] at hcap
      have HS := Lib.hid hsrc
      have HL := Lib.hid (And.intro hln (And.intro hl htk))
      clear hsrc hf htk hl hln hcp hb
      go_wp2_with fail
      go_loopg [4] (ln + 1) (fun z i wq => ∃ k : Nat, k ≤ ln ∧ z = ln + 1 - k ∧ i = .int .i64 k ∧ Hid (clockL (l.take k) = false) ∧ wq = wr)
      case atStart => exact ⟨0, by omega, rfl, rfl, Lib.hid rfl, rfl⟩
      case round =>
        obtain ⟨k, hk, hz, rfl, HK, rfl⟩ := hrel
        have HY := Lib.hid hz
        clear hz
        by_cases hkl : k < ln
        · have hkf : k < l.length := by rw [← HL.out.1]; exact hkl
          obtain ⟨b2, o2, cp2, hA, hbs, hcap2, c0, c1, c2⟩ := HS.out.get k hkf
          rw [← HL.out.1] at hA hcap2
          injection hA with hA1 _ hA3
          subst hA1 hA3
          have htk := List.take_succ_eq_append_getElem hkf
          obtain ⟨x, hx⟩ : ∃ x, x = l[k] := ⟨_, rfl⟩
          rw [← hx] at c0 htk
          have HX := Lib.hid (And.intro htk hx)
          clear htk hx c1 c2 hbs
          obtain ⟨op, a, m⟩ := x
          simp only at c0
          by_cases h25 : op = 25
          · have hr1 : r = true := by
              rw [HR.out]
              unfold clocksV
              rw [List.any_eq_true]
              refine ⟨fs[j], List.getElem_mem _, ?_⟩
              have e : fs[j].l = l := by
                have h1 := HL.out.2.2
                have h2 := List.take_succ_eq_append_getElem hjf
                rw [h1] at h2
                have h3 := List.append_cancel_left h2
                injection h3 with h3
                rw [← h3, HL.out.2.1]
              rw [e]
              unfold clockL
              rw [List.any_eq_true]
              exact ⟨_, List.getElem_mem hkf, by rw [← HX.out.2, h25]; rfl⟩
            subst hr1 h25
            go_wp2_with fail
            go_ret
            exact ⟨rfl, HB.out⟩
          · have q1 : (op == 25) = false := by rw [beq_eq_false_iff_ne]; exact h25
            have HK2 : Hid (clockL (l.take (k + 1)) = false) := Lib.hid (by
              have h := HK.out
              unfold clockL at h ⊢
              rw [HX.out.1, List.any_append, h]
              simp [h25])
            go_wp2_with fail
            go_roundg (ln + 1 - (k + 1))
            case measure => have := HY.out; omega
            case rel => exact ⟨k + 1, by omega, rfl, by go_num, HK2, rfl⟩
        · have HT2 : Hid ((fs.take (j + 1)).any (fun f => clockL f.l) = false) := Lib.hid (by
            have h := HK.out
            rw [show k = l.length by rw [← HL.out.1]; omega, List.take_length] at h
            rw [HL.out.2.2, List.any_append, HT.out]
            simp only [List.any_cons, List.any_nil, Bool.or_false, Bool.false_or]
            rw [← HL.out.2.1]
            exact h)
          go_wp2_with fail
          go_roundg (n + 1 - (j + 1))
          case measure => have := HZ.out; omega
          case rel => exact ⟨j + 1, by omega, rfl, by go_num, HT2, rfl⟩
    · have hr0 : r = false := by
        have h := HT.out
        rw [show j = fs.length by rw [← HN.out]; omega, List.take_length] at h
        rw [HR.out]
        exact h
      subst hr0
      go_wp2_with fail
      go_ret
      exact ⟨rfl, HB.out⟩
end Go.Proofs.YtahmnmpfjgddpaaGreatDoor
