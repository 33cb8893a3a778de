/- HeapNew: the walk of the law. -/
import Derived.Test.YtjoibhaohmifcaaHeapMore
import Derived.Deep.LoopGhost
import Derived.Lib.Hide
import Derived.OpenShut
namespace Go.Proofs.Ytjoibhaohmifcaa
set_option linter.unusedVariables false
set_option linter.unusedSimpArgs false
open Go.RowKit Go.Deep

def NRel (w0 : World) (g len : Nat) (k : Nat) (i : Value) (wr : World) : Prop :=
  ∃ (j : Nat) (xss : List (List Int)), j ≤ len ∧ j ≤ 20 ∧ k = 20 - j ∧ i = .int .i64 j ∧ xss.length = j ∧ total xss ≤ 100 * j ∧ HB w0 wr g 2000 xss
def NRel2 (w0 : World) (g : Nat) (xss : List (List Int)) (v : Int) (n : Nat) (r : Nat) (k : Value) (wr : World) : Prop :=
  ∃ (j : Nat), j ≤ n ∧ r = n - j ∧ k = .int .i64 j ∧ HB w0 wr g 2000 (xss ++ [filled v n j])

set_option maxHeartbeats 4000000 in
set_option maxRecDepth 100000 in
theorem heapNew_walk (a : Option Addr) (len cap : Nat) (zs : List Int) (v : Int) (w : World) (hr : IntRow .u8 w a len zs) (hl : len * 1 ≤ 140737488351232) (hv : (Lit.int .i64 v).wf = true) :
    Calls Try.prog 6 #[.slice a len cap, .int .i64 v] w fun e w' => e = .returned (.bool true) ∧ Below w.heap.size w w' := by
  suffices hs : ∀ w0, w0 = w → Calls Try.prog 6 #[.slice a len cap, .int .i64 v] w fun e w' => e = .returned (.bool true) ∧ Below w0.heap.size w0 w' from hs w rfl
  intro w0 hw0
  have HR := Lib.hid hr
  have HW := Lib.hid hw0
  have hlen : len ≤ 9223372036854775807 := by omega
  clear hr hw0 hl hv
  go_enter Try.func6, Try.ntmps6
  go_wp2_with fail
  refine (shown_any _).mono ?_; rintro e w1 ⟨rfl, hb1⟩
  have HB1 : Hid (Below w0.heap.size w0 w1) := by rw [HW.out]; exact hb1
  clear hb1
  go_wp2_with fail
  refine (HB.new HB1.out 2000 2000 (by decide)).mono ?_
  rintro e w2 ⟨g, rfl, h⟩
  go_wp2_with fail
  go_loopg [7] 20 (fun k i wr => NRel w0 g len k i wr)
  case atStart => exact ⟨0, [], by omega, by omega, rfl, rfl, rfl, by simp [total], h⟩
  case round =>
    clear h
    obtain ⟨j, xss, hj1, hj2, hk, rfl, hn, hT, h⟩ := hrel
    have HK := Lib.hid hk
    have HN := Lib.hid hn
    have HT := Lib.hid hT
    clear hk hn hT
    by_cases hlt : j < len
    · obtain ⟨b, off, rfl, hc⟩ := HR.out.at_ (by omega)
      obtain ⟨hz1, hz2⟩ := bounds_u8 (HR.out.wfD j hlt)
      have hcj := hc j hlt
      clear hc
      have hcw : wr.cell? ⟨b, off + j, none⟩ = some (.int .u8 (zs.getD j 0)) := by
        have hbl := World.block_lt_of_cell? w _ hcj
        have := h.bel.cell (p := ⟨b, off + j, none⟩) (by rw [HW.out]; exact hbl)
        rw [this, HW.out]; exact hcj
      clear hcj
      generalize zs.getD j 0 = z at *
      by_cases h20 : j < 20
      · obtain ⟨n, hn⟩ : ∃ n : Nat, (n : Int) = 1 + z % 100 := ⟨(1 + z % 100).toNat, by omega⟩
        have hn1 : 1 ≤ n := by omega
        have hn2 : n ≤ 100 := by omega
        have hm : makev 2000 xss (1 + z % 100) = ((j : Int), 0, xss ++ [filled v n 0]) := by
          have := HT.out
          have := HN.out
          unfold makev
          rw [if_neg (by omega), if_neg (by omega), filled_zero, HN.out, ← hn]
          simp
        have HM := Lib.hid hm
        have hle : lenv (xss ++ [filled v n 0]) j = 1 + z % 100 := by
          have := lenv_end xss (filled v n 0)
          rw [HN.out] at this
          rw [this, filled_length _ _ _ (by omega), hn]
        have HL := Lib.hid hle
        clear hm hle
        have HNZ := Lib.hid hn
        clear hn
        go_wp2_with fail
        refine (h.make (1 + z % 100) j 0 _ HM.out).mono ?_; rintro e w3 ⟨rfl, h3⟩
        go_wp2_with fail
        refine (h3.len j (1 + z % 100) HL.out).mono ?_; rintro e w4 ⟨rfl, rfl⟩
        go_wp2_with fail
        clear h
        go_loopg [11] n (fun r k wr => NRel2 w0 g xss v n r k wr)
        case atStart => exact ⟨0, by omega, by omega, rfl, h3⟩
        case round =>
          clear h3 hcw
          obtain ⟨t, ht1, hr, rfl, h⟩ := hrel
          have HRR := Lib.hid hr
          clear hr
          have hnz := HNZ.out
          by_cases htn : t < n
          · have htz : (t : Int) < 1 + z % 100 := by omega
            clear hnz
            have hg : (cellv (xss ++ [filled v n t]) j t).getD 0 = 0 ∧ (cellv (xss ++ [filled v n t]) j t).isSome = true := by
              have := cellv_end xss (filled v n t) t
              rw [HN.out] at this
              rw [this, filled_get _ _ _ htn]
              exact ⟨rfl, rfl⟩
            have HG := Lib.hid hg
            have hs : (cellv (xss ++ [filled v n t]) j t).isSome = true ∧ setv (xss ++ [filled v n t]) j t v = xss ++ [filled v n (t + 1)] := by
              have := setv_end xss (filled v n t) t v
              rw [HN.out] at this
              exact ⟨hg.2, by rw [this, filled_set _ _ _ htn]⟩
            have HS := Lib.hid hs
            clear hg hs
            go_wp2_with fail
            refine (h.get j t 0 true HG.out).mono ?_; rintro e w4 ⟨rfl, rfl⟩
            go_wp2_with fail
            refine (h.set j t v true _ HS.out).mono ?_; rintro e w4 ⟨rfl, h4⟩
            go_wp2_with fail
            go_roundg (n - (t + 1))
            case measure => have := HRR.out; omega
            case rel => exact ⟨t + 1, by omega, rfl, by go_num, h4⟩
          · have htz : ¬ ((t : Int) < 1 + z % 100) := by omega
            obtain rfl : t = n := by omega
            clear hnz
            go_wp2_with fail
            go_roundg (19 - j)
            case measure => have := HK.out; omega
            case rel => exact ⟨j + 1, xss ++ [filled v t t], by omega, by omega, by omega, by go_num, by have := HN.out; simp; omega, by have := HT.out; rw [total_end, filled_length _ _ _ (Nat.le_refl _)]; omega, h⟩
      · go_wp2_with fail
        go_ret
        exact ⟨rfl, h.bel⟩
    · go_wp2_with fail
      go_ret
      exact ⟨rfl, h.bel⟩
end Go.Proofs.Ytjoibhaohmifcaa
