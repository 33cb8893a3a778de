/- interp: the meter. -/
import Derived.Test.YtdpimkbdieafgaaDoorRow
import Derived.Test.YtdpimkbdieafgaaDoorKeep
import Derived.BigQuiet
import Derived.Deep.CutBlock
import Derived.Deep.QuietTactic
namespace Go.Proofs.YtdpimkbdieafgaaDoor
set_option linter.unusedVariables false
set_option linter.unusedSimpArgs false
open Go.RowKit

/-- a meter at mt -/
def MetIs (w : World) (mt : Nat) (now fuel : Int) : Prop := w.heap[mt]? = some (.cells #[.int .i64 now, .int .i64 fuel] 68 (0, 0))
theorem MetIs.kept {w w' : World} {mt : Nat} {now fuel : Int} {T : Nat → Prop} (h : MetIs w mt now fuel) (hc : Chg T w w') (hn : ¬ T mt) : MetIs w' mt now fuel := hc.heap h hn
theorem MetIs.drewN {w : World} {mt : Nat} {now fuel : Int} (h : MetIs w mt now fuel) (n : Nat) : MetIs (w.drewN n) mt now fuel := by
  induction n generalizing w with
  | zero => exact h
  | succ n ih => exact h
def clampf (f : Int) : Int := if f < 0 then 0 else if 1099511627776 < f then 1099511627776 else f
theorem clampf_in (f : Int) : 0 ≤ clampf f ∧ clampf f ≤ 1099511627776 := by unfold clampf; repeat' split <;> omega

set_option maxRecDepth 100000 in
theorem now_any {w : World} {mt : Nat} {now fuel : Int} (h : MetIs w mt now fuel) : Calls Tryd.prog 23 #[.pointer (some ⟨mt, 0, none⟩)] w fun e w' => e = .returned (.int .i64 now) ∧ w = w' := by
  have c0 := cell_of_block h 0
  simp at c0
  clear h
  go_enter Tryd.func23, Tryd.ntmps23
  go_wp2
  go_ret
  exact ⟨rfl, rfl⟩
set_option maxRecDepth 100000 in
theorem over_any {w : World} {mt : Nat} {now fuel : Int} (h : MetIs w mt now fuel) (b : Bool) (hb : decide (fuel < now) = b) : Calls Tryd.prog 56 #[.pointer (some ⟨mt, 0, none⟩)] w fun e w' => e = .returned (.bool b) ∧ ∃ n, w' = w.drewN n := by
  have CN : Hid (∀ m, Calls Tryd.prog 23 #[.pointer (some ⟨mt, 0, none⟩)] (w.drewN m) fun e w' => e = .returned (.int .i64 now) ∧ w.drewN m = w') := Lib.hid (fun m => now_any (h.drewN m))
  have c0 := cell_of_block h 0
  have c1 := cell_of_block h 1
  simp at c0 c1
  clear h
  go_enter Tryd.func56, Tryd.ntmps56
  go_wp2_with fail
  go_quiet ((go_at_call 23; exact Calls.quiet_of_same ((CN.out _).mono (by rintro e w' ⟨rfl, rfl⟩; exact ⟨rfl, rfl⟩))))
  go_wp2_with fail
  go_ret
  exact ⟨by first | rfl | (rw [← hb]; rfl), _, rfl⟩
set_option maxRecDepth 100000 in
theorem add_any {w : World} {mt : Nat} {now fuel c : Int} (h : MetIs w mt now fuel) (hs : wrap64 (now + c) = now + c) : Calls Tryd.prog 57 #[.pointer (some ⟨mt, 0, none⟩), .int .i64 c] w fun e w' => e = .returned (.tuple #[]) ∧ MetIs w' mt (now + c) fuel ∧ Chg (fun k => k = mt) w w' := by
  have c0 := cell_of_block h 0
  have f0 := frozen_of_block h 0
  simp at c0
  have hm : MetIs (w.setCell ⟨mt, 0, none⟩ (.int .i64 (now + c))) mt (now + c) fuel := heap_set h 0 _
  have hc : Chg (fun k => k = mt) w (w.setCell ⟨mt, 0, none⟩ (.int .i64 (now + c))) := Chg.set_cell ⟨mt, 0, none⟩ _
  have H := Lib.hid (And.intro hm hc)
  clear h hm hc
  go_enter Tryd.func57, Tryd.ntmps57
  go_wp2_with fail
  go_end0
  exact ⟨rfl, H.out⟩
set_option maxRecDepth 100000 in
theorem meter_new_any (f : Int) (w : World) : Calls Tryd.prog 20 #[.int .i64 f] w fun e w' => e = .returned (.pointer (some ⟨w.heap.size, 0, none⟩)) ∧ MetIs w' w.heap.size 0 (clampf f) ∧ Chg (fun _ => False) w w' := by
  obtain ⟨z, hz⟩ : ∃ z, clampf f = z := ⟨_, rfl⟩
  rw [hz]
  have hc : f < 0 ∧ z = 0 ∨ (¬ f < 0 ∧ 1099511627776 < f ∧ z = 1099511627776) ∨ (¬ f < 0 ∧ ¬ 1099511627776 < f ∧ z = f) := by
    rw [← hz]; unfold clampf
    by_cases h1 : f < 0
    · exact .inl ⟨h1, if_pos h1⟩
    · rw [if_neg h1]
      by_cases h2 : 1099511627776 < f
      · exact .inr (.inl ⟨h1, h2, if_pos h2⟩)
      · exact .inr (.inr ⟨h1, h2, if_neg h2⟩)
  have hm : MetIs (w.alloc (.cells #[.int .i64 0, .int .i64 z] 68)) w.heap.size 0 z := heap_new _ _
  have HM := Lib.hid hm
  clear hm hz
  have e1 : (if f < 0 then 0 else f) = (if f < 0 then 0 else f) := rfl
  rcases hc with ⟨h1, rfl⟩ | ⟨h1, h2, rfl⟩ | ⟨h1, h2, rfl⟩
  all_goals
    go_enter Tryd.func20, Tryd.ntmps20
    go_wp2
    all_goals
      go_ret
      exact ⟨rfl, HM.out, (Chg.refl _ _).alloc _⟩
set_option maxRecDepth 100000 in
theorem charge_any {w : World} {mt : Nat} {now fuel c : Int} (h : MetIs w mt now fuel) (h0 : 0 ≤ now) (h1 : now ≤ fuel) (h2 : fuel ≤ 1099511627776) (hc0 : 0 ≤ c) (hc1 : c ≤ 1099511627776) :
    Calls Tryd.prog 35 #[.pointer (some ⟨mt, 0, none⟩), .int .i64 c] w fun e w' => e = .returned (.int .i64 (if fuel < now + c then 8 else 0)) ∧ MetIs w' mt (now + c) fuel ∧ Chg (fun k => k = mt) w w' := by
  have C1 := Lib.hid (over_any h false (decide_eq_false (by omega)))
  have CA : Hid (∀ m, Calls Tryd.prog 57 #[.pointer (some ⟨mt, 0, none⟩), .int .i64 c] (w.drewN m) fun e w' => e = .returned (.tuple #[]) ∧ MetIs w' mt (now + c) fuel ∧ Chg (fun k => k = mt) (w.drewN m) w') := Lib.hid (fun m => add_any (h.drewN m) (by unfold wrap64; omega))
  have HM := Lib.hid h
  have hml : mt < w.heap.size := lt_of_heap h
  clear h
  obtain ⟨r, hr⟩ : ∃ r : Int, r = if fuel < now + c then 8 else 0 := ⟨_, rfl⟩
  rw [← hr]
  obtain ⟨b, hb⟩ : ∃ b, decide (fuel < now + c) = b := ⟨_, rfl⟩
  have HBR : Hid (r = if b = true then 8 else 0) := Lib.hid (by rw [hr, ← hb]; simp)
  have HB := Lib.hid hb
  clear hr hb
  go_enter Tryd.func35, Tryd.ntmps35
  go_wp2_with fail
  refine C1.out.mono ?_; rintro e w1 ⟨rfl, m, rfl⟩
  go_wp2_with fail
  refine (CA.out m).mono ?_; rintro e w2 ⟨rfl, hm2, hc2⟩
  have C2 := Lib.hid (over_any hm2 b HB.out)
  have H2 := Lib.hid (And.intro hm2 (Chg.of_drewN hc2))
  clear hm2 hc2
  go_wp2_with fail
  refine C2.out.mono ?_; rintro e w3 ⟨rfl, m3, rfl⟩
  cases b with
  | true =>
    obtain rfl : r = 8 := HBR.out
    go_wp2_with fail
    go_ret
    exact ⟨rfl, H2.out.1.drewN m3, H2.out.2.drewN m3⟩
  | false =>
    obtain rfl : r = 0 := HBR.out
    go_wp2_with fail
    go_ret
    exact ⟨rfl, H2.out.1.drewN m3, H2.out.2.drewN m3⟩
end Go.Proofs.YtdpimkbdieafgaaDoor
