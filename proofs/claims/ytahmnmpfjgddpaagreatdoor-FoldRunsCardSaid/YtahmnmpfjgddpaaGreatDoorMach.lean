/- The texts IntA, IntB, IntC, IntM, IntD, IntE, IntF, IntG, IntR, IntH, IntI, IntJ, IntK, IntL, IntN in one. -/
import Derived.Test.YtahmnmpfjgddpaaGreatDoorRow
import Derived.Test.YtahmnmpfjgddpaaGreatDoorKeep
import Derived.BigQuiet
import Derived.Deep.CutBlock
import Derived.Deep.QuietTactic
import Derived.Deep.AppendLies
import Derived.Test.YtahmnmpfjgddpaaGreatDoorHeap
import Derived.Test.YtahmnmpfjgddpaaGreatDoorVer
import Derived.Test.YtahmnmpfjgddpaaGreatDoorDo
import Derived.Test.YtahmnmpfjgddpaaGreatDoorOrd
import Derived.Test.YtahmnmpfjgddpaaGreatDoorFoldRun
import Derived.Laws.Bits64b
import Derived.Test.YtahmnmpfjgddpaaGreatDoorOrdT
import Derived.WalkMore
import Derived.Deep.LoopGhost
import Derived.Handy
namespace Go.Proofs.YtahmnmpfjgddpaaGreatDoor
set_option linter.unusedVariables false
set_option linter.unusedSimpArgs false
open Go.RowKit

/-- a meter at mt -/
def MetIs (w : World) (mt : Nat) (now fuel : Int) : Prop := w.heap[mt]? = some (.cells #[.int .i64 now, .int .i64 fuel] 69 (0, 0))
theorem MetIs.kept {w w' : World} {mt : Nat} {now fuel : Int} {T : Nat → Prop} (h : MetIs w mt now fuel) (hc : Chg T w w') (hn : ¬ T mt) : MetIs w' mt now fuel := hc.heap h hn
theorem MetIs.drewN {w : World} {mt : Nat} {now fuel : Int} (h : MetIs w mt now fuel) (n : Nat) : MetIs (w.drewN n) mt now fuel := by
  induction n generalizing w with
  | zero => exact h
  | succ n ih => exact h
def clampf (f : Int) : Int := if f < 0 then 0 else if 1099511627776 < f then 1099511627776 else f
theorem clampf_in (f : Int) : 0 ≤ clampf f ∧ clampf f ≤ 1099511627776 := by unfold clampf; repeat' split <;> omega

set_option maxRecDepth 100000 in
theorem now_any {w : World} {mt : Nat} {now fuel : Int} (h : MetIs w mt now fuel) : Calls Tryz.prog 24 #[.pointer (some ⟨mt, 0, none⟩)] w fun e w' => e = .returned (.int .i64 now) ∧ w = w' := by
  have c0 := cell_of_block h 0
  simp at c0
  clear h
  go_enter Tryz.func24, Tryz.ntmps24
  go_wp2
  go_ret
  exact ⟨rfl, rfl⟩
set_option maxRecDepth 100000 in
theorem over_any {w : World} {mt : Nat} {now fuel : Int} (h : MetIs w mt now fuel) (b : Bool) (hb : decide (fuel < now) = b) : Calls Tryz.prog 56 #[.pointer (some ⟨mt, 0, none⟩)] w fun e w' => e = .returned (.bool b) ∧ ∃ n, w' = w.drewN n := by
  have CN : Hid (∀ m, Calls Tryz.prog 24 #[.pointer (some ⟨mt, 0, none⟩)] (w.drewN m) fun e w' => e = .returned (.int .i64 now) ∧ w.drewN m = w') := Lib.hid (fun m => now_any (h.drewN m))
  have c0 := cell_of_block h 0
  have c1 := cell_of_block h 1
  simp at c0 c1
  clear h
  go_enter Tryz.func56, Tryz.ntmps56
  go_wp2_with fail
  go_quiet ((go_at_call 24; exact Calls.quiet_of_same ((CN.out _).mono (by rintro e w' ⟨rfl, rfl⟩; exact ⟨rfl, rfl⟩))))
  go_wp2_with fail
  go_ret
  exact ⟨by first | rfl | (rw [← hb]; rfl), _, rfl⟩
set_option maxRecDepth 100000 in
theorem add_any {w : World} {mt : Nat} {now fuel c : Int} (h : MetIs w mt now fuel) (hs : wrap64 (now + c) = now + c) : Calls Tryz.prog 57 #[.pointer (some ⟨mt, 0, none⟩), .int .i64 c] w fun e w' => e = .returned (.tuple #[]) ∧ MetIs w' mt (now + c) fuel ∧ Chg (fun k => k = mt) w w' := by
  have c0 := cell_of_block h 0
  have f0 := frozen_of_block h 0
  simp at c0
  have hm : MetIs (w.setCell ⟨mt, 0, none⟩ (.int .i64 (now + c))) mt (now + c) fuel := heap_set h 0 _
  have hc : Chg (fun k => k = mt) w (w.setCell ⟨mt, 0, none⟩ (.int .i64 (now + c))) := Chg.set_cell ⟨mt, 0, none⟩ _
  have H := Lib.hid (And.intro hm hc)
  clear h hm hc
  go_enter Tryz.func57, Tryz.ntmps57
  go_wp2_with fail
  go_end0
  exact ⟨rfl, H.out⟩
set_option maxRecDepth 100000 in
theorem meter_new_any (f : Int) (w : World) : Calls Tryz.prog 21 #[.int .i64 f] w fun e w' => e = .returned (.pointer (some ⟨w.heap.size, 0, none⟩)) ∧ MetIs w' w.heap.size 0 (clampf f) ∧ Chg (fun _ => False) w w' := by
  obtain ⟨z, hz⟩ : ∃ z, clampf f = z := ⟨_, rfl⟩
  rw [hz]
  have hc : f < 0 ∧ z = 0 ∨ (¬ f < 0 ∧ 1099511627776 < f ∧ z = 1099511627776) ∨ (¬ f < 0 ∧ ¬ 1099511627776 < f ∧ z = f) := by
    rw [← hz]; unfold clampf
    by_cases h1 : f < 0
    · exact .inl ⟨h1, if_pos h1⟩
    · rw [if_neg h1]
      by_cases h2 : 1099511627776 < f
      · exact .inr (.inl ⟨h1, h2, if_pos h2⟩)
      · exact .inr (.inr ⟨h1, h2, if_neg h2⟩)
  have hm : MetIs (w.alloc (.cells #[.int .i64 0, .int .i64 z] 69)) w.heap.size 0 z := heap_new _ _
  have HM := Lib.hid hm
  clear hm hz
  have e1 : (if f < 0 then 0 else f) = (if f < 0 then 0 else f) := rfl
  rcases hc with ⟨h1, rfl⟩ | ⟨h1, h2, rfl⟩ | ⟨h1, h2, rfl⟩
  all_goals
    go_enter Tryz.func21, Tryz.ntmps21
    go_wp2
    all_goals
      go_ret
      exact ⟨rfl, HM.out, (Chg.refl _ _).alloc _⟩
set_option maxRecDepth 100000 in
theorem charge_any {w : World} {mt : Nat} {now fuel c : Int} (h : MetIs w mt now fuel) (h0 : 0 ≤ now) (h1 : now ≤ fuel) (h2 : fuel ≤ 1099511627776) (hc0 : 0 ≤ c) (hc1 : c ≤ 1099511627776) :
    Calls Tryz.prog 37 #[.pointer (some ⟨mt, 0, none⟩), .int .i64 c] w fun e w' => e = .returned (.int .i64 (if fuel < now + c then 8 else 0)) ∧ MetIs w' mt (now + c) fuel ∧ Chg (fun k => k = mt) w w' := by
  have C1 := Lib.hid (over_any h false (decide_eq_false (by omega)))
  have CA : Hid (∀ m, Calls Tryz.prog 57 #[.pointer (some ⟨mt, 0, none⟩), .int .i64 c] (w.drewN m) fun e w' => e = .returned (.tuple #[]) ∧ MetIs w' mt (now + c) fuel ∧ Chg (fun k => k = mt) (w.drewN m) w') := Lib.hid (fun m => add_any (h.drewN m) (by unfold wrap64; omega))
  have HM := Lib.hid h
  have hml : mt < w.heap.size := lt_of_heap h
  clear h
  obtain ⟨r, hr⟩ : ∃ r : Int, r = if fuel < now + c then 8 else 0 := ⟨_, rfl⟩
  rw [← hr]
  obtain ⟨b, hb⟩ : ∃ b, decide (fuel < now + c) = b := ⟨_, rfl⟩
  have HBR : Hid (r = if b = true then 8 else 0) := Lib.hid (by rw [hr, ← hb]; simp)
  have HB := Lib.hid hb
  clear hr hb
  go_enter Tryz.func37, Tryz.ntmps37
  go_wp2_with fail
  refine C1.out.mono ?_; rintro e w1 ⟨rfl, m, rfl⟩
  go_wp2_with fail
  refine (CA.out m).mono ?_; rintro e w2 ⟨rfl, hm2, hc2⟩
  have C2 := Lib.hid (over_any hm2 b HB.out)
  have H2 := Lib.hid (And.intro hm2 (Chg.of_drewN hc2))
  clear hm2 hc2
  go_wp2_with fail
  refine C2.out.mono ?_; rintro e w3 ⟨rfl, m3, rfl⟩
  cases b with
  | true =>
    obtain rfl : r = 8 := HBR.out
    go_wp2_with fail
    go_ret
    exact ⟨rfl, H2.out.1.drewN m3, H2.out.2.drewN m3⟩
  | false =>
    obtain rfl : r = 0 := HBR.out
    go_wp2_with fail
    go_ret
    exact ⟨rfl, H2.out.1.drewN m3, H2.out.2.drewN m3⟩
end Go.Proofs.YtahmnmpfjgddpaaGreatDoor
namespace Go.Proofs.YtahmnmpfjgddpaaGreatDoor
set_option linter.unusedVariables false
set_option linter.unusedSimpArgs false
open Go.RowKit

def nums (l : List Int) : List Value := l.map (Value.int .i64)
theorem nums_length (l : List Int) : (nums l).length = l.length := by simp [nums]
theorem nums_get (l : List Int) (j : Nat) (h : j < l.length) : (nums l)[j]? = some (.int .i64 l[j]) := by simp [nums, h]
theorem nums_snoc (l : List Int) (x : Int) : nums (l ++ [x]) = nums l ++ [.int .i64 x] := by simp [nums]
theorem nums_set (l : List Int) (j : Nat) (x : Int) : nums (l.set j x) = (nums l).set j (.int .i64 x) := by simp [nums, List.map_set]
theorem infoL : (Tryz.prog.info? 2).map (fun i => (i.zero, i.size, i.bytes)) = some (some (.int .i64 0), 1, 8) := by kernel_rfl
theorem infoI : (Tryz.prog.info? 3).map (fun i => (i.zero, i.size, i.bytes)) = some (some (.int .i64 0), 1, 8) := by kernel_rfl

/-- a shorter slice of a row -/
theorem ownsRow_short {w : World} {base : Nat} {e : TypeId} {n cap : Nat} {A : Option Addr} {xs : List Value} (h : w.ownsRow base e 1 (.slice A n cap) n xs) (m : Nat) (hm : m ≤ n) : w.ownsRow base e 1 (.slice A m cap) m (xs.take m) := by
  obtain ⟨hl, h0 | ⟨g, cap', cur, e1, hb, hh, h1, h2, h3, h4⟩⟩ := h
  · obtain ⟨e1, rfl⟩ := h0
    injection e1 with e1 e2 e3
    subst e1 e3
    have : m = 0 := by omega
    subst this
    exact ⟨by simp, .inl ⟨rfl, rfl⟩⟩
  · injection e1 with e1 e2 e3
    subst e1 e3
    refine ⟨by rw [List.length_take]; omega, .inr ⟨g, cap, cur, rfl, hb, hh, by omega, h2, h3, ?_⟩⟩
    rw [← h4, List.take_take]
    congr 1
    omega
theorem ownsRow_cell {w : World} {base : Nat} {e : TypeId} {n cap : Nat} {A : Option Addr} {xs : List Value} (h : w.ownsRow base e 1 (.slice A n cap) n xs) (j : Nat) (hj : j < n) : ∃ g, A = some ⟨g, 0, none⟩ ∧ g < w.heap.size ∧ n ≤ cap ∧ w.frozen? ⟨g, j, none⟩ = false ∧ ∀ u, xs[j]? = some u → w.cell? ⟨g, j, none⟩ = some u := by
  have hcs := fun g hg => h.cells (g := g) hg j
  rcases h.2 with ⟨e1, h0⟩ | ⟨g, cap', cur, e1, hb, hh, h1, h2, h3⟩
  · omega
  · injection e1 with e1 e2 e3
    subst e1 e3
    refine ⟨g, rfl, lt_of_heap hh, h1, frozen_of_block hh j, fun u hu => ?_⟩
    have := hcs g rfl u hu
    rwa [add0] at this
theorem ownsRow_cap {w : World} {base : Nat} {e : TypeId} {n cap : Nat} {A : Option Addr} {xs : List Value} (h : w.ownsRow base e 1 (.slice A n cap) n xs) : n ≤ cap ∧ cap ≤ maxLen := by
  rcases h.2 with ⟨e1, h0⟩ | ⟨g, cap', cur, e1, hb, hh, h1, h2, h3⟩
  · injection e1 with e1 e2 e3
    subst e3
    exact ⟨by omega, by unfold maxLen; omega⟩
  · injection e1 with e1 e2 e3
    subst e3
    exact ⟨h1, h2⟩

/-- the memory of a frame -/
structure FSt (w : World) (F : Nat) (VA VB VC : Value) (vars arrs stack : List Int) : Prop where
  box : w.heap[F]? = some (.cells #[VA, VB, VC] 124 (0, 0))
  va : w.ownsRow 0 2 1 VA vars.length (nums vars)
  vb : w.ownsRow 0 3 1 VB arrs.length (nums arrs)
  vc : w.ownsRow 0 2 1 VC stack.length (nums stack)
  na : VA.ownBlock ≠ some F
  nb : VB.ownBlock ≠ some F
  nc : VC.ownBlock ≠ some F
  ab : ∀ k, VA.ownBlock = some k → VB.ownBlock ≠ some k
  ac : ∀ k, VA.ownBlock = some k → VC.ownBlock ≠ some k
  bc : ∀ k, VB.ownBlock = some k → VC.ownBlock ≠ some k
def FIs (w : World) (Y : Nat → Prop) (F : Nat) (vars arrs stack : List Int) : Prop :=
  ∃ VA VB VC, FSt w F VA VB VC vars arrs stack ∧ Y F ∧ (∀ k, VA.ownBlock = some k → Y k) ∧ (∀ k, VB.ownBlock = some k → Y k) ∧ (∀ k, VC.ownBlock = some k → Y k)
theorem FSt.kept {w w' : World} {F : Nat} {VA VB VC : Value} {vars arrs stack : List Int} {T : Nat → Prop} (h : FSt w F VA VB VC vars arrs stack) (hc : Chg T w w') (hF : ¬ T F) (hA : ∀ k, VA.ownBlock = some k → ¬ T k) (hB : ∀ k, VB.ownBlock = some k → ¬ T k) (hC : ∀ k, VC.ownBlock = some k → ¬ T k) : FSt w' F VA VB VC vars arrs stack :=
  ⟨hc.heap h.box hF, ownsRow_kept h.va hc hA, ownsRow_kept h.vb hc hB, ownsRow_kept h.vc hc hC, h.na, h.nb, h.nc, h.ab, h.ac, h.bc⟩
theorem FIs.kept {w w' : World} {Y T : Nat → Prop} {F : Nat} {vars arrs stack : List Int} (h : FIs w Y F vars arrs stack) (hc : Chg T w w') (hn : ∀ k, Y k → ¬ T k) : FIs w' Y F vars arrs stack := by
  obtain ⟨VA, VB, VC, h1, h2, h3, h4, h5⟩ := h
  exact ⟨VA, VB, VC, h1.kept hc (hn _ h2) (fun k hk => hn _ (h3 k hk)) (fun k hk => hn _ (h4 k hk)) (fun k hk => hn _ (h5 k hk)), h2, h3, h4, h5⟩
theorem FIs.mono {w : World} {Y Y' : Nat → Prop} {F : Nat} {vars arrs stack : List Int} (h : FIs w Y F vars arrs stack) (hm : ∀ k, Y k → k < w.heap.size → Y' k) : FIs w Y' F vars arrs stack := by
  obtain ⟨VA, VB, VC, h1, h2, h3, h4, h5⟩ := h
  exact ⟨VA, VB, VC, h1, hm _ h2 (lt_of_heap h1.box), fun k hk => hm _ (h3 k hk) (ownsRow_lt h1.va k hk), fun k hk => hm _ (h4 k hk) (ownsRow_lt h1.vb k hk), fun k hk => hm _ (h5 k hk) (ownsRow_lt h1.vc k hk)⟩
theorem FIs.drewN {w : World} {Y : Nat → Prop} {F : Nat} {vars arrs stack : List Int} (h : FIs w Y F vars arrs stack) (n : Nat) : FIs (w.drewN n) Y F vars arrs stack := h.kept ((Chg.refl (fun _ => False) w).drewN n) (fun _ _ x => x)

set_option maxHeartbeats 1000000 in
set_option maxRecDepth 100000 in
theorem pop_st {w : World} {F : Nat} {VA VB : Value} {A : Option Addr} {c : Nat} {vars arrs stack : List Int} {n : Int} (hs : FSt w F VA VB (.slice A (stack.length + 1) c) vars arrs (stack ++ [n])) (hl : stack.length ≤ 1099511627776) :
    Calls Tryz.prog 60 #[.pointer (some ⟨F, 0, none⟩)] w fun e w' => e = .returned (.int .i64 n) ∧ FSt w' F VA VB (.slice A stack.length c) vars arrs stack ∧ Chg (fun k => k = F) w w' := by
  have hvc := hs.vc
  obtain ⟨m, hm⟩ : ∃ m, m = stack.length := ⟨_, rfl⟩
  have hl1 : (stack ++ [n]).length = m + 1 := by simp [hm]
  rw [← hm] at hs hvc ⊢
  rw [hl1] at hvc
  obtain ⟨g, rfl, hg, hcap, _, hcell⟩ := ownsRow_cell hvc m (by omega)
  have hn := hcell (.int .i64 n) (by rw [nums_snoc, List.getElem?_append_right (by rw [nums_length, hm]; exact Nat.le_refl _), nums_length, hm]; simp)
  have c2 := cell_of_block hs.box 2
  have f2 := frozen_of_block hs.box 2
  simp at c2
  have hset := Chg.set_cell (w := w) ⟨F, 2, none⟩ (.slice (some ⟨g, 0, none⟩) m c)
  have hvc2 := ownsRow_short hvc m (by omega)
  have ht : (nums (stack ++ [n])).take m = nums stack := by
    rw [nums_snoc, List.take_append_of_le_length (by rw [nums_length]; omega), List.take_of_length_le (by rw [nums_length]; omega)]
  rw [ht] at hvc2
  have hfin : FSt (w.setCell ⟨F, 2, none⟩ (.slice (some ⟨g, 0, none⟩) m c)) F VA VB (.slice (some ⟨g, 0, none⟩) m c) vars arrs stack := by
    refine ⟨heap_set hs.box 2 _, ownsRow_kept hs.va hset (fun k hk e => hs.na (by rw [hk]; exact congrArg some e)), ownsRow_kept hs.vb hset (fun k hk e => hs.nb (by rw [hk]; exact congrArg some e)), ?_, hs.na, hs.nb, hs.nc, hs.ab, hs.ac, hs.bc⟩
    rw [← hm]
    exact ownsRow_kept hvc2 hset (fun k hk e => hs.nc (by have e : k = F := e; rw [← e]; exact hk))
  have HF := Lib.hid (And.intro hfin hset)
  have hml : m ≤ 1099511627776 := by omega
  clear hfin hset hvc hvc2 hs ht hcell hl hl1 hm
  go_enter Tryz.func60, Tryz.ntmps60
  go_wp2_with fail
  go_ret
  exact ⟨rfl, HF.out.1, HF.out.2⟩
theorem pop_any {w : World} {Y : Nat → Prop} {F : Nat} {vars arrs stack : List Int} {n : Int} (h : FIs w Y F vars arrs (stack ++ [n])) (hl : stack.length ≤ 1099511627776) :
    Calls Tryz.prog 60 #[.pointer (some ⟨F, 0, none⟩)] w fun e w' => e = .returned (.int .i64 n) ∧ FIs w' Y F vars arrs stack ∧ Chg (fun k => k = F) w w' := by
  obtain ⟨VA, VB, VC, hs, hY1, hY2, hY3, hY4⟩ := h
  obtain ⟨_, A, c, rfl⟩ := ownsRow_slice hs.vc
  have e : (stack ++ [n]).length = stack.length + 1 := by simp
  rw [e] at hs hY4
  refine (pop_st hs hl).mono ?_
  rintro e w' ⟨rfl, h1, h2⟩
  exact ⟨rfl, ⟨VA, VB, _, h1, hY1, hY2, hY3, fun k hk => hY4 k (by cases A with | none => cases hk | some a => exact hk)⟩, h2⟩
/-- a variable, an array's number is set -/
theorem FSt.setvar {w : World} {F : Nat} {VB VC : Value} {b c : Nat} {vars arrs stack : List Int} (h : FSt w F (.slice (some ⟨b, 0, none⟩) vars.length c) VB VC vars arrs stack) (j : Nat) (hj : j < vars.length) (x : Int) :
    FSt (w.setCell ⟨b, j, none⟩ (.int .i64 x)) F (.slice (some ⟨b, 0, none⟩) vars.length c) VB VC (vars.set j x) arrs stack := by
  have hs := Chg.set_cell (w := w) ⟨b, j, none⟩ (.int .i64 x)
  refine ⟨hs.heap h.box (fun e => h.na (congrArg some e.symm)), ?_, ownsRow_kept h.vb hs (fun k hk e => h.ab k (congrArg some e.symm) hk), ownsRow_kept h.vc hs (fun k hk e => h.ac k (congrArg some e.symm) hk), h.na, h.nb, h.nc, h.ab, h.ac, h.bc⟩
  rw [List.length_set, nums_set]
  exact ownsRow_set h.va j (by omega) _
theorem FSt.setarr {w : World} {F : Nat} {VA VC : Value} {b c : Nat} {vars arrs stack : List Int} (h : FSt w F VA (.slice (some ⟨b, 0, none⟩) arrs.length c) VC vars arrs stack) (j : Nat) (hj : j < arrs.length) (x : Int) :
    FSt (w.setCell ⟨b, j, none⟩ (.int .i64 x)) F VA (.slice (some ⟨b, 0, none⟩) arrs.length c) VC vars (arrs.set j x) stack := by
  have hs := Chg.set_cell (w := w) ⟨b, j, none⟩ (.int .i64 x)
  refine ⟨hs.heap h.box (fun e => h.nb (congrArg some e.symm)), ownsRow_kept h.va hs (fun k hk e => h.ab k hk (congrArg some e.symm)), ?_, ownsRow_kept h.vc hs (fun k hk e => h.bc k (congrArg some e.symm) hk), h.na, h.nb, h.nc, h.ab, h.ac, h.bc⟩
  rw [List.length_set, nums_set]
  exact ownsRow_set h.vb j (by omega) _

set_option maxHeartbeats 1000000 in
set_option maxRecDepth 100000 in
theorem push_any {w : World} {Y : Nat → Prop} {F : Nat} {vars arrs stack : List Int} (n : Int) (h : FIs w Y F vars arrs stack) (hl : stack.length ≤ 1099511627776) :
    Calls Tryz.prog 74 #[.pointer (some ⟨F, 0, none⟩), .int .i64 n] w fun e w' => e = .returned (.tuple #[]) ∧ FIs w' (fun k => Y k ∨ w.heap.size ≤ k) F vars arrs (stack ++ [n]) ∧ Chg Y w w' := by
  obtain ⟨VA, VB, VC, hs, hYF, hYA, hYB, hYC⟩ := h
  have hvc := hs.vc
  obtain ⟨_, A, c, rfl⟩ := ownsRow_slice hvc
  obtain ⟨m, hm⟩ : ∃ m, m = stack.length := ⟨_, rfl⟩
  rw [← hm] at hvc hl hs hYC
  have c2 := cell_of_block hs.box 2
  simp at c2
  obtain ⟨wx, hwx⟩ : ∃ wx, wx = w.alloc (.cells #[.int .i64 n] 2) := ⟨_, rfl⟩
  have hcx : Chg (fun _ => False) w wx := by rw [hwx]; exact (Chg.refl _ _).alloc _
  have HROW : Hid (wx.ownsRow 0 2 1 (.slice A m c) m (nums stack)) := Lib.hid (ownsRow_kept hvc hcx (fun _ _ x => x))
  have HNEW : Hid (∀ (j : Nat) u, ([.int .i64 n] : List Value)[j]? = some u → wx.cell? ((⟨w.heap.size, 0, none⟩ : Addr).add j) = some u) := Lib.hid (World.news_of_block (cs := #[.int .i64 n]) (t := 2) (fr := (0, 0)) (by rw [hwx]; exact heap_new _ _))
  have HSZ : Hid (wx.heap.size = w.heap.size + 1) := Lib.hid (by rw [hwx]; simp)
  have HSX := Lib.hid (hs.kept hcx (fun x => x) (fun _ _ x => x) (fun _ _ x => x) (fun _ _ x => x))
  have HCX := Lib.hid hcx
  have HWX := Lib.hid hwx
  have HY := Lib.hid (And.intro hYF (And.intro hYA (And.intro hYB hYC)))
  have HLT := Lib.hid (And.intro (lt_of_heap hs.box) (And.intro (ownsRow_lt hs.va) (And.intro (ownsRow_lt hs.vb) (ownsRow_lt hs.vc))))
  have HM := Lib.hid hm
  obtain ⟨i0, hi, hz0, hz1, hz2⟩ := info_parts infoL
  clear hs hYF hYA hYB hYC hvc hcx hwx hm
  go_enter Tryz.func74, Tryz.ntmps74
  go_wp2_with (at_builtin; rw [← HWX.out]; refine wpList_append_lies _ rfl _ _ _ rfl 0 2 i0 _ 1 8 Tryz.underlying25 hi hz0 hz1 hz2 rfl (by omega) (.slice A m c) m (nums stack) rfl HROW.out ⟨w.heap.size, 0, none⟩ 1 1 [.int .i64 n] rfl rfl HNEW.out (by simp [Value.oneCell']) (by omega) (by unfold maxLen; omega) (by omega) (by omega) (w.heap.size + 1) HSZ.out ?_; intro g cap w2 hown2 hgrow2 hat2 hlt2; have hc2 := Chg.of_grown hgrow2; have hb2 := hc2.heap HSX.out.box (fun e => HSX.out.nc e); have k2 := cell_of_block hb2 2; have f2 := frozen_of_block hb2 2; simp at k2; have HB2 := Lib.hid hb2; have HC2 := Lib.hid hc2; clear hb2 hc2)
  go_end0
  have hset := Chg.set_cell (w := w2) ⟨F, 2, none⟩ (.slice (some ⟨g, 0, none⟩) (m + 1) cap)
  have hat : (Value.slice A m c).ownBlock = some g ∨ g = w.heap.size + 1 := hat2
  have hgF : ¬ g = F := fun e => by
    rcases hat with h | h
    · exact HSX.out.nc (by rw [h, e])
    · have := HLT.out.1; omega
  have hgA : ∀ k, VA.ownBlock = some k → ¬ g = k := fun k hk e => by
    rcases hat with h | h
    · exact HSX.out.ac k hk (by rw [h, e])
    · have := HLT.out.2.1 k hk; omega
  have hgB : ∀ k, VB.ownBlock = some k → ¬ g = k := fun k hk e => by
    rcases hat with h | h
    · exact HSX.out.bc k hk (by rw [h, e])
    · have := HLT.out.2.2.1 k hk; omega
  refine ⟨rfl, ⟨VA, VB, .slice (some ⟨g, 0, none⟩) (m + 1) cap, ⟨heap_set HB2.out 2 _, ?_, ?_, ?_, HSX.out.na, HSX.out.nb, ?_, HSX.out.ab, ?_, ?_⟩, .inl HY.out.1, fun k hk => .inl (HY.out.2.1 k hk), fun k hk => .inl (HY.out.2.2.1 k hk), fun k hk => ?_⟩, ?_⟩
  · exact ownsRow_kept (ownsRow_kept HSX.out.va HC2.out (fun k hk e => HSX.out.ac k hk e)) hset (fun k hk e => HSX.out.na (by rw [hk]; exact congrArg some e))
  · exact ownsRow_kept (ownsRow_kept HSX.out.vb HC2.out (fun k hk e => HSX.out.bc k hk e)) hset (fun k hk e => HSX.out.nb (by rw [hk]; exact congrArg some e))
  · rw [nums_snoc, List.length_append, ← HM.out]
    exact ownsRow_kept hown2 hset (fun k hk e => hgF (by
      have hk : some g = some k := hk
      injection hk with hk
      rw [hk]; exact e))
  · intro e
    have e : some g = some F := e
    injection e with e
    exact hgF e
  · intro k hk e
    have e : some g = some k := e
    injection e with e
    exact hgA k hk e
  · intro k hk e
    have e : some g = some k := e
    injection e with e
    exact hgB k hk e
  · have hk : some g = some k := hk
    injection hk with hk
    subst hk
    rcases hat with h | h
    · exact .inl (HY.out.2.2.2 g h)
    · exact .inr (by omega)
  · refine (HCX.out.trans HC2.out (T := Y) (fun _ _ x => x.elim) (fun k _ e => HY.out.2.2.2 k e)).then ?_
    exact hset.mono (fun k _ e => by rw [e]; exact HY.out.1)
end Go.Proofs.YtahmnmpfjgddpaaGreatDoor
namespace Go.Proofs.YtahmnmpfjgddpaaGreatDoor
set_option linter.unusedVariables false
set_option linter.unusedSimpArgs false
open Go.RowKit

/-- numbers that a slice has (memory that is only read) -/
def NumSrc (w : World) (V : Value) (l : List Int) : Prop :=
  ∃ A c, V = .slice A l.length c ∧ l.length ≤ c ∧ c ≤ maxLen ∧ (0 < l.length → ∃ b off, A = some ⟨b, off, none⟩ ∧ ∀ (j : Nat) x, l[j]? = some x → w.cell? ⟨b, off + j, none⟩ = some (.int .i64 x))
theorem NumSrc.keep {w w' : World} {V : Value} {l : List Int} (h : NumSrc w V l) (hb : Below w.heap.size w w') : NumSrc w' V l := by
  obtain ⟨A, c, e, h1, h2, h3⟩ := h
  refine ⟨A, c, e, h1, h2, fun h0 => ?_⟩
  obtain ⟨b, off, e2, h4⟩ := h3 h0
  exact ⟨b, off, e2, fun j x hx => (Below.chg hb).cell (h4 j x hx) (fun x => x)⟩

/-- what a machine has beside its frames -/
structure GS where
  now : Int
  fuel : Int
  q : Int
  xss : List (List Int)
  i0 : List Int
  i1 : List Int
  pr : List Int
  ke : List Int
  cl : List Int

structure MSt (W0 w : World) (m mt hp : Nat) (Sh : Nat → Prop) (V I0 I1 P K C : Value) (d : Nat) (g : GS) : Prop where
  box : w.heap[m]? = some (.cells #[.pointer (some ⟨mt, 0, none⟩), .pointer (some ⟨hp, 0, none⟩), V, I0, I1, .nilIface, .int .i64 d, P, K, C, .int .i64 0, .int .i64 0, .int .i64 0] 62 (0, 0))
  met : MetIs w mt g.now g.fuel
  hep : HeapIs w Sh hp g.q g.xss
  i0 : NumSrc W0 I0 g.i0
  i1 : NumSrc W0 I1 g.i1
  pr : w.ownsRow 0 2 1 P g.pr.length (nums g.pr)
  ke : w.ownsRow 0 2 1 K g.ke.length (nums g.ke)
  cl : w.ownsRow 0 2 1 C g.cl.length (nums g.cl)
  mm : m ≠ mt
  sm : ¬ Sh m
  st : ¬ Sh mt
  sl : ∀ k, Sh k → k < w.heap.size
  pm : P.ownBlock ≠ some m ∧ P.ownBlock ≠ some mt ∧ ∀ k, P.ownBlock = some k → ¬ Sh k
  km : K.ownBlock ≠ some m ∧ K.ownBlock ≠ some mt ∧ ∀ k, K.ownBlock = some k → ¬ Sh k
  cm : C.ownBlock ≠ some m ∧ C.ownBlock ≠ some mt ∧ ∀ k, C.ownBlock = some k → ¬ Sh k
  pk : ∀ k, P.ownBlock = some k → K.ownBlock ≠ some k
  pc : ∀ k, P.ownBlock = some k → C.ownBlock ≠ some k
  kc : ∀ k, K.ownBlock = some k → C.ownBlock ≠ some k
/-- the blocks of a machine -/
structure MIn (X : Nat → Prop) (m mt : Nat) (Sh : Nat → Prop) (P K C : Value) : Prop where
  m : X m
  mt : X mt
  sh : ∀ k, Sh k → X k
  p : ∀ k, P.ownBlock = some k → X k
  k : ∀ k, K.ownBlock = some k → X k
  c : ∀ k, C.ownBlock = some k → X k
def MIs (W0 w : World) (X : Nat → Prop) (m : Nat) (V : Value) (d : Nat) (g : GS) : Prop :=
  ∃ mt hp Sh I0 I1 P K C, MSt W0 w m mt hp Sh V I0 I1 P K C d g ∧ MIn X m mt Sh P K C

theorem MSt.kept {W0 w w' : World} {m mt hp : Nat} {Sh T : Nat → Prop} {V I0 I1 P K C : Value} {d : Nat} {g : GS} (h : MSt W0 w m mt hp Sh V I0 I1 P K C d g) (hc : Chg T w w') {X : Nat → Prop} (hX : MIn X m mt Sh P K C) (hn : ∀ k, X k → ¬ T k) : MSt W0 w' m mt hp Sh V I0 I1 P K C d g :=
  ⟨hc.heap h.box (hn _ hX.m), h.met.kept hc (hn _ hX.mt), h.hep.kept hc (fun k hk => hn _ (hX.sh k hk)), h.i0, h.i1, ownsRow_kept h.pr hc (fun k hk => hn _ (hX.p k hk)), ownsRow_kept h.ke hc (fun k hk => hn _ (hX.k k hk)), ownsRow_kept h.cl hc (fun k hk => hn _ (hX.c k hk)), h.mm, h.sm, h.st, fun k hk => Nat.lt_of_lt_of_le (h.sl k hk) hc.size, h.pm, h.km, h.cm, h.pk, h.pc, h.kc⟩
theorem MIs.kept {W0 w w' : World} {X T : Nat → Prop} {m : Nat} {V : Value} {d : Nat} {g : GS} (h : MIs W0 w X m V d g) (hc : Chg T w w') (hn : ∀ k, X k → ¬ T k) : MIs W0 w' X m V d g := by
  obtain ⟨mt, hp, Sh, I0, I1, P, K, C, h1, h2⟩ := h
  exact ⟨mt, hp, Sh, I0, I1, P, K, C, h1.kept hc h2 hn, h2⟩
theorem MIs.mono {W0 w : World} {X X' : Nat → Prop} {m : Nat} {V : Value} {d : Nat} {g : GS} (h : MIs W0 w X m V d g) (hm : ∀ k, X k → k < w.heap.size → X' k) : MIs W0 w X' m V d g := by
  obtain ⟨mt, hp, Sh, I0, I1, P, K, C, h1, h2⟩ := h
  exact ⟨mt, hp, Sh, I0, I1, P, K, C, h1, ⟨hm _ h2.m (lt_of_heap h1.box), hm _ h2.mt (lt_of_heap h1.met), fun k hk => hm _ (h2.sh k hk) (h1.sl k hk), fun k hk => hm _ (h2.p k hk) (ownsRow_lt h1.pr k hk), fun k hk => hm _ (h2.k k hk) (ownsRow_lt h1.ke k hk), fun k hk => hm _ (h2.c k hk) (ownsRow_lt h1.cl k hk)⟩⟩

/-- the machine and a frame, in a world behind W0 -/
structure Ms (W0 w : World) (X Y : Nat → Prop) (m : Nat) (V : Value) (d : Nat) (g : GS) (F : Nat) (vars arrs stack : List Int) : Prop where
  mi : MIs W0 w X m V d g
  fi : FIs w Y F vars arrs stack
  bel : Below W0.heap.size W0 w
  lx : ∀ k, X k → W0.heap.size ≤ k ∧ k < w.heap.size
  ly : ∀ k, Y k → W0.heap.size ≤ k ∧ k < w.heap.size
  xy : ∀ k, X k → ¬ Y k
/-- what may have changed, and what the footprints have become -/
structure Gr (w : World) (X Y : Nat → Prop) (w' : World) (X' Y' : Nat → Prop) : Prop where
  chg : Chg (fun k => X k ∨ Y k) w w'
  gx : ∀ k, X' k → X k ∨ w.heap.size ≤ k
  gy : ∀ k, Y' k → Y k ∨ w.heap.size ≤ k
theorem Gr.refl (w : World) (X Y : Nat → Prop) : Gr w X Y w X Y := ⟨Chg.refl _ _, fun _ h => .inl h, fun _ h => .inl h⟩
theorem Gr.trans {w w1 w2 : World} {X Y X1 Y1 X2 Y2 : Nat → Prop} (h : Gr w X Y w1 X1 Y1) (k : Gr w1 X1 Y1 w2 X2 Y2) : Gr w X Y w2 X2 Y2 := by
  refine ⟨h.chg.trans k.chg (fun _ _ x => x) (fun i hi hx => ?_), fun i hi => ?_, fun i hi => ?_⟩
  · rcases hx with hx | hx
    · rcases h.gx i hx with h | h
      · exact .inl h
      · omega
    · rcases h.gy i hx with h | h
      · exact .inr h
      · omega
  · rcases k.gx i hi with h1 | h1
    · exact h.gx i h1
    · exact .inr (Nat.le_trans h.chg.size h1)
  · rcases k.gy i hi with h1 | h1
    · exact h.gy i h1
    · exact .inr (Nat.le_trans h.chg.size h1)
/-- the frame alone has changed -/
theorem Ms.frame {W0 w w' : World} {X Y : Nat → Prop} {m : Nat} {V : Value} {d : Nat} {g : GS} {F : Nat} {vars arrs stack vars' arrs' stack' : List Int} (h : Ms W0 w X Y m V d g F vars arrs stack)
    (hf : FIs w' (fun k => Y k ∨ w.heap.size ≤ k) F vars' arrs' stack') (hc : Chg Y w w') : ∃ Y', Ms W0 w' X Y' m V d g F vars' arrs' stack' ∧ Gr w X Y w' X Y' := by
  refine ⟨fun k => (Y k ∨ w.heap.size ≤ k) ∧ k < w'.heap.size, ⟨h.mi.kept hc (fun k hk => h.xy k hk), hf.mono (fun k hk hl => ⟨hk, hl⟩), ?_, fun k hk => ⟨(h.lx k hk).1, Nat.lt_of_lt_of_le (h.lx k hk).2 hc.size⟩, fun k hk => ⟨?_, hk.2⟩, fun k hk hy => ?_⟩, ⟨hc.mono (fun _ _ h => .inr h), fun _ h => .inl h, fun _ h => h.1⟩⟩
  · exact h.bel.trans (hc.below (B := W0.heap.size) (fun k hk => (h.ly k hk).1) h.bel.size)
  · rcases hk.1 with h1 | h1
    · exact (h.ly k h1).1
    · exact Nat.le_trans h.bel.size h1
  · rcases hy.1 with h1 | h1
    · exact h.xy k hk h1
    · have := (h.lx k hk).2; omega
/-- the machine alone has changed -/
theorem Ms.mach {W0 w w' : World} {X Y : Nat → Prop} {m : Nat} {V : Value} {d d' : Nat} {g g' : GS} {F : Nat} {vars arrs stack : List Int} (h : Ms W0 w X Y m V d g F vars arrs stack)
    (hm : MIs W0 w' (fun k => X k ∨ w.heap.size ≤ k) m V d' g') (hc : Chg X w w') : ∃ X', Ms W0 w' X' Y m V d' g' F vars arrs stack ∧ Gr w X Y w' X' Y := by
  refine ⟨fun k => (X k ∨ w.heap.size ≤ k) ∧ k < w'.heap.size, ⟨hm.mono (fun k hk hl => ⟨hk, hl⟩), h.fi.kept hc (fun k hk hx => h.xy k hx hk), ?_, fun k hk => ⟨?_, hk.2⟩, fun k hk => ⟨(h.ly k hk).1, Nat.lt_of_lt_of_le (h.ly k hk).2 hc.size⟩, fun k hk hy => ?_⟩, ⟨hc.mono (fun _ _ h => .inl h), fun _ h => h.1, fun _ h => .inl h⟩⟩
  · exact h.bel.trans (hc.below (B := W0.heap.size) (fun k hk => (h.lx k hk).1) h.bel.size)
  · rcases hk.1 with h1 | h1
    · exact (h.lx k h1).1
    · exact Nat.le_trans h.bel.size h1
  · rcases hk.1 with h1 | h1
    · exact h.xy k h1 hy
    · have := (h.ly k hy).2; omega
/-- neither has changed -/
theorem Ms.still {W0 w w' : World} {X Y : Nat → Prop} {m : Nat} {V : Value} {d : Nat} {g : GS} {F : Nat} {vars arrs stack : List Int} (h : Ms W0 w X Y m V d g F vars arrs stack) (hc : Chg (fun _ => False) w w') : Ms W0 w' X Y m V d g F vars arrs stack ∧ Gr w X Y w' X Y :=
  ⟨⟨h.mi.kept hc (fun _ _ x => x), h.fi.kept hc (fun _ _ x => x), h.bel.trans (hc.below (B := W0.heap.size) (fun k h => h.elim) h.bel.size), fun k hk => ⟨(h.lx k hk).1, Nat.lt_of_lt_of_le (h.lx k hk).2 hc.size⟩, fun k hk => ⟨(h.ly k hk).1, Nat.lt_of_lt_of_le (h.ly k hk).2 hc.size⟩, h.xy⟩, ⟨hc.mono (fun _ _ h => h.elim), fun _ h => .inl h, fun _ h => .inl h⟩⟩

/-! ### the machine's cells are set -/
/-- a row's block: its own of old, or a new one -/
theorem MSt.set7 {W0 w w2 : World} {m mt hp : Nat} {Sh : Nat → Prop} {V I0 I1 P K C : Value} {d : Nat} {g : GS} (h : MSt W0 w m mt hp Sh V I0 I1 P K C d g) {q cap : Nat} {x : Int} {L : Nat} (hc : Chg (fun k => P.ownBlock = some k) w w2)
    (ho : w2.ownsRow 0 2 1 (.slice (some ⟨q, 0, none⟩) L cap) L (nums (g.pr ++ [x]))) (hL : L = g.pr.length + 1) (hat : P.ownBlock = some q ∨ w.heap.size ≤ q) :
    MSt W0 (w2.setCell ⟨m, 7, none⟩ (.slice (some ⟨q, 0, none⟩) L cap)) m mt hp Sh V I0 I1 (.slice (some ⟨q, 0, none⟩) L cap) K C d { g with pr := g.pr ++ [x] } := by
  have hq : ∀ k, (Value.slice (some ⟨q, 0, none⟩) L cap).ownBlock = some k → P.ownBlock = some k ∨ w.heap.size ≤ k := fun k hk => by
    have hk : some q = some k := hk
    injection hk with hk
    rw [← hk]; exact hat
  have hs := Chg.set_cell (w := w2) ⟨m, 7, none⟩ (.slice (some ⟨q, 0, none⟩) L cap)
  have hne : ∀ k, (Value.slice (some ⟨q, 0, none⟩) L cap).ownBlock = some k → k ≠ m ∧ k ≠ mt ∧ ¬ Sh k := fun k hk => by
    rcases hq k hk with h1 | h1
    · exact ⟨fun e => h.pm.1 (by rw [h1, e]), fun e => h.pm.2.1 (by rw [h1, e]), h.pm.2.2 k h1⟩
    · exact ⟨fun e => by have := lt_of_heap h.box; omega, fun e => by have := lt_of_heap h.met; omega, fun e => by have := h.sl k e; omega⟩
  refine ⟨heap_set (hc.heap h.box (fun e => h.pm.1 e)) 7 _, (h.met.kept hc (fun e => h.pm.2.1 e)).kept hs (fun e => h.mm e.symm), (h.hep.kept hc (fun k hk e => h.pm.2.2 k e hk)).kept hs (fun k hk e => h.sm (by have e : k = m := e; rw [← e]; exact hk)), h.i0, h.i1, ?_, ?_, ?_, h.mm, h.sm, h.st, fun k hk => Nat.lt_of_lt_of_le (h.sl k hk) (Nat.le_trans hc.size hs.size), ?_, h.km, h.cm, ?_, ?_, h.kc⟩
  · show World.ownsRow _ 0 2 1 _ (g.pr ++ [x]).length (nums (g.pr ++ [x]))
    rw [List.length_append, List.length_singleton, ← hL]
    exact ownsRow_kept ho hs (fun k hk e => (hne k hk).1 e)
  · exact ownsRow_kept (ownsRow_kept h.ke hc (fun k hk e => h.pk k e hk)) hs (fun k hk e => h.km.1 (by rw [hk]; exact congrArg some e))
  · exact ownsRow_kept (ownsRow_kept h.cl hc (fun k hk e => h.pc k e hk)) hs (fun k hk e => h.cm.1 (by rw [hk]; exact congrArg some e))
  · exact ⟨fun e => (hne m e).1 rfl, fun e => (hne mt e).2.1 rfl, fun k hk => (hne k hk).2.2⟩
  · intro k hk e
    rcases hq k hk with h1 | h1
    · exact h.pk k h1 e
    · have := ownsRow_lt h.ke k e; omega
  · intro k hk e
    rcases hq k hk with h1 | h1
    · exact h.pc k h1 e
    · have := ownsRow_lt h.cl k e; omega
theorem MSt.set8 {W0 w w2 : World} {m mt hp : Nat} {Sh : Nat → Prop} {V I0 I1 P K C : Value} {d : Nat} {g : GS} (h : MSt W0 w m mt hp Sh V I0 I1 P K C d g) {q cap : Nat} {x : Int} {L : Nat} (hc : Chg (fun k => K.ownBlock = some k) w w2)
    (ho : w2.ownsRow 0 2 1 (.slice (some ⟨q, 0, none⟩) L cap) L (nums (g.ke ++ [x]))) (hL : L = g.ke.length + 1) (hat : K.ownBlock = some q ∨ w.heap.size ≤ q) :
    MSt W0 (w2.setCell ⟨m, 8, none⟩ (.slice (some ⟨q, 0, none⟩) L cap)) m mt hp Sh V I0 I1 P (.slice (some ⟨q, 0, none⟩) L cap) C d { g with ke := g.ke ++ [x] } := by
  have hq : ∀ k, (Value.slice (some ⟨q, 0, none⟩) L cap).ownBlock = some k → K.ownBlock = some k ∨ w.heap.size ≤ k := fun k hk => by
    have hk : some q = some k := hk
    injection hk with hk
    rw [← hk]; exact hat
  have hs := Chg.set_cell (w := w2) ⟨m, 8, none⟩ (.slice (some ⟨q, 0, none⟩) L cap)
  have hne : ∀ k, (Value.slice (some ⟨q, 0, none⟩) L cap).ownBlock = some k → k ≠ m ∧ k ≠ mt ∧ ¬ Sh k := fun k hk => by
    rcases hq k hk with h1 | h1
    · exact ⟨fun e => h.km.1 (by rw [h1, e]), fun e => h.km.2.1 (by rw [h1, e]), h.km.2.2 k h1⟩
    · exact ⟨fun e => by have := lt_of_heap h.box; omega, fun e => by have := lt_of_heap h.met; omega, fun e => by have := h.sl k e; omega⟩
  refine ⟨heap_set (hc.heap h.box (fun e => h.km.1 e)) 8 _, (h.met.kept hc (fun e => h.km.2.1 e)).kept hs (fun e => h.mm e.symm), (h.hep.kept hc (fun k hk e => h.km.2.2 k e hk)).kept hs (fun k hk e => h.sm (by have e : k = m := e; rw [← e]; exact hk)), h.i0, h.i1, ?_, ?_, ?_, h.mm, h.sm, h.st, fun k hk => Nat.lt_of_lt_of_le (h.sl k hk) (Nat.le_trans hc.size hs.size), h.pm, ?_, h.cm, ?_, h.pc, ?_⟩
  · exact ownsRow_kept (ownsRow_kept h.pr hc (fun k hk e => h.pk k hk e)) hs (fun k hk e => h.pm.1 (by rw [hk]; exact congrArg some e))
  · show World.ownsRow _ 0 2 1 _ (g.ke ++ [x]).length (nums (g.ke ++ [x]))
    rw [List.length_append, List.length_singleton, ← hL]
    exact ownsRow_kept ho hs (fun k hk e => (hne k hk).1 e)
  · exact ownsRow_kept (ownsRow_kept h.cl hc (fun k hk e => h.kc k e hk)) hs (fun k hk e => h.cm.1 (by rw [hk]; exact congrArg some e))
  · exact ⟨fun e => (hne m e).1 rfl, fun e => (hne mt e).2.1 rfl, fun k hk => (hne k hk).2.2⟩
  · intro k hk e
    rcases hq k e with h1 | h1
    · exact h.pk k hk h1
    · have := ownsRow_lt h.pr k hk; omega
  · intro k hk e
    rcases hq k hk with h1 | h1
    · exact h.kc k h1 e
    · have := ownsRow_lt h.cl k e; omega
theorem MSt.set9 {W0 w w2 : World} {m mt hp : Nat} {Sh : Nat → Prop} {V I0 I1 P K C : Value} {d : Nat} {g : GS} (h : MSt W0 w m mt hp Sh V I0 I1 P K C d g) {q cap : Nat} {x : Int} {L : Nat} (hc : Chg (fun k => C.ownBlock = some k) w w2)
    (ho : w2.ownsRow 0 2 1 (.slice (some ⟨q, 0, none⟩) L cap) L (nums (g.cl ++ [x]))) (hL : L = g.cl.length + 1) (hat : C.ownBlock = some q ∨ w.heap.size ≤ q) :
    MSt W0 (w2.setCell ⟨m, 9, none⟩ (.slice (some ⟨q, 0, none⟩) L cap)) m mt hp Sh V I0 I1 P K (.slice (some ⟨q, 0, none⟩) L cap) d { g with cl := g.cl ++ [x] } := by
  have hq : ∀ k, (Value.slice (some ⟨q, 0, none⟩) L cap).ownBlock = some k → C.ownBlock = some k ∨ w.heap.size ≤ k := fun k hk => by
    have hk : some q = some k := hk
    injection hk with hk
    rw [← hk]; exact hat
  have hs := Chg.set_cell (w := w2) ⟨m, 9, none⟩ (.slice (some ⟨q, 0, none⟩) L cap)
  have hne : ∀ k, (Value.slice (some ⟨q, 0, none⟩) L cap).ownBlock = some k → k ≠ m ∧ k ≠ mt ∧ ¬ Sh k := fun k hk => by
    rcases hq k hk with h1 | h1
    · exact ⟨fun e => h.cm.1 (by rw [h1, e]), fun e => h.cm.2.1 (by rw [h1, e]), h.cm.2.2 k h1⟩
    · exact ⟨fun e => by have := lt_of_heap h.box; omega, fun e => by have := lt_of_heap h.met; omega, fun e => by have := h.sl k e; omega⟩
  refine ⟨heap_set (hc.heap h.box (fun e => h.cm.1 e)) 9 _, (h.met.kept hc (fun e => h.cm.2.1 e)).kept hs (fun e => h.mm e.symm), (h.hep.kept hc (fun k hk e => h.cm.2.2 k e hk)).kept hs (fun k hk e => h.sm (by have e : k = m := e; rw [← e]; exact hk)), h.i0, h.i1, ?_, ?_, ?_, h.mm, h.sm, h.st, fun k hk => Nat.lt_of_lt_of_le (h.sl k hk) (Nat.le_trans hc.size hs.size), h.pm, h.km, ?_, h.pk, ?_, ?_⟩
  · exact ownsRow_kept (ownsRow_kept h.pr hc (fun k hk e => h.pc k hk e)) hs (fun k hk e => h.pm.1 (by rw [hk]; exact congrArg some e))
  · exact ownsRow_kept (ownsRow_kept h.ke hc (fun k hk e => h.kc k hk e)) hs (fun k hk e => h.km.1 (by rw [hk]; exact congrArg some e))
  · show World.ownsRow _ 0 2 1 _ (g.cl ++ [x]).length (nums (g.cl ++ [x]))
    rw [List.length_append, List.length_singleton, ← hL]
    exact ownsRow_kept ho hs (fun k hk e => (hne k hk).1 e)
  · exact ⟨fun e => (hne m e).1 rfl, fun e => (hne mt e).2.1 rfl, fun k hk => (hne k hk).2.2⟩
  · intro k hk e
    rcases hq k e with h1 | h1
    · exact h.pc k hk h1
    · have := ownsRow_lt h.pr k hk; omega
  · intro k hk e
    rcases hq k e with h1 | h1
    · exact h.kc k hk h1
    · have := ownsRow_lt h.ke k hk; omega
/-- a cell of the box alone: depth, or an input -/
theorem MSt.setd {W0 w : World} {m mt hp : Nat} {Sh : Nat → Prop} {V I0 I1 P K C : Value} {d : Nat} {g : GS} (h : MSt W0 w m mt hp Sh V I0 I1 P K C d g) (d' : Nat) : MSt W0 (w.setCell ⟨m, 6, none⟩ (.int .i64 d')) m mt hp Sh V I0 I1 P K C d' g := by
  have hs := Chg.set_cell (w := w) ⟨m, 6, none⟩ (.int .i64 d')
  exact ⟨heap_set h.box 6 _, h.met.kept hs (fun e => h.mm e.symm), h.hep.kept hs (fun k hk e => h.sm (by have e : k = m := e; rw [← e]; exact hk)), h.i0, h.i1, ownsRow_kept h.pr hs (fun k hk e => h.pm.1 (by rw [hk]; exact congrArg some e)), ownsRow_kept h.ke hs (fun k hk e => h.km.1 (by rw [hk]; exact congrArg some e)), ownsRow_kept h.cl hs (fun k hk e => h.cm.1 (by rw [hk]; exact congrArg some e)), h.mm, h.sm, h.st, fun k hk => Nat.lt_of_lt_of_le (h.sl k hk) hs.size, h.pm, h.km, h.cm, h.pk, h.pc, h.kc⟩
theorem MSt.set3 {W0 w : World} {m mt hp : Nat} {Sh : Nat → Prop} {V I0 I1 P K C : Value} {d : Nat} {g : GS} (h : MSt W0 w m mt hp Sh V I0 I1 P K C d g) (I : Value) (l : List Int) (hl : NumSrc W0 I l) : MSt W0 (w.setCell ⟨m, 3, none⟩ I) m mt hp Sh V I I1 P K C d { g with i0 := l } := by
  have hs := Chg.set_cell (w := w) ⟨m, 3, none⟩ I
  exact ⟨heap_set h.box 3 _, h.met.kept hs (fun e => h.mm e.symm), h.hep.kept hs (fun k hk e => h.sm (by have e : k = m := e; rw [← e]; exact hk)), hl, h.i1, ownsRow_kept h.pr hs (fun k hk e => h.pm.1 (by rw [hk]; exact congrArg some e)), ownsRow_kept h.ke hs (fun k hk e => h.km.1 (by rw [hk]; exact congrArg some e)), ownsRow_kept h.cl hs (fun k hk e => h.cm.1 (by rw [hk]; exact congrArg some e)), h.mm, h.sm, h.st, fun k hk => Nat.lt_of_lt_of_le (h.sl k hk) hs.size, h.pm, h.km, h.cm, h.pk, h.pc, h.kc⟩
theorem MSt.set4 {W0 w : World} {m mt hp : Nat} {Sh : Nat → Prop} {V I0 I1 P K C : Value} {d : Nat} {g : GS} (h : MSt W0 w m mt hp Sh V I0 I1 P K C d g) (I : Value) (l : List Int) (hl : NumSrc W0 I l) : MSt W0 (w.setCell ⟨m, 4, none⟩ I) m mt hp Sh V I0 I P K C d { g with i1 := l } := by
  have hs := Chg.set_cell (w := w) ⟨m, 4, none⟩ I
  exact ⟨heap_set h.box 4 _, h.met.kept hs (fun e => h.mm e.symm), h.hep.kept hs (fun k hk e => h.sm (by have e : k = m := e; rw [← e]; exact hk)), h.i0, hl, ownsRow_kept h.pr hs (fun k hk e => h.pm.1 (by rw [hk]; exact congrArg some e)), ownsRow_kept h.ke hs (fun k hk e => h.km.1 (by rw [hk]; exact congrArg some e)), ownsRow_kept h.cl hs (fun k hk e => h.cm.1 (by rw [hk]; exact congrArg some e)), h.mm, h.sm, h.st, fun k hk => Nat.lt_of_lt_of_le (h.sl k hk) hs.size, h.pm, h.km, h.cm, h.pk, h.pc, h.kc⟩
/-- the meter goes on -/
theorem MSt.turn {W0 w w' : World} {m mt hp : Nat} {Sh : Nat → Prop} {V I0 I1 P K C : Value} {d : Nat} {g : GS} (h : MSt W0 w m mt hp Sh V I0 I1 P K C d g) (z : Int) (hc : Chg (fun k => k = mt) w w') (hm : MetIs w' mt z g.fuel) : MSt W0 w' m mt hp Sh V I0 I1 P K C d { g with now := z } :=
  ⟨hc.heap h.box (fun e => h.mm e), hm, h.hep.kept hc (fun k hk e => h.st (by rw [← e]; exact hk)), h.i0, h.i1, ownsRow_kept h.pr hc (fun k hk e => h.pm.2.1 (by rw [hk, e])), ownsRow_kept h.ke hc (fun k hk e => h.km.2.1 (by rw [hk, e])), ownsRow_kept h.cl hc (fun k hk e => h.cm.2.1 (by rw [hk, e])), h.mm, h.sm, h.st, fun k hk => Nat.lt_of_lt_of_le (h.sl k hk) hc.size, h.pm, h.km, h.cm, h.pk, h.pc, h.kc⟩
/-- the heap has changed -/
theorem MSt.heap {W0 w w' : World} {m mt hp : Nat} {Sh : Nat → Prop} {V I0 I1 P K C : Value} {d : Nat} {g : GS} (h : MSt W0 w m mt hp Sh V I0 I1 P K C d g) (ys : List (List Int)) (hc : Chg Sh w w') (hh : HeapIs w' (fun k => Sh k ∨ w.heap.size ≤ k) hp g.q ys) :
    MSt W0 w' m mt hp (fun k => (Sh k ∨ w.heap.size ≤ k) ∧ k < w'.heap.size) V I0 I1 P K C d { g with xss := ys } := by
  have hlm := lt_of_heap h.box
  have hlt := lt_of_heap h.met
  refine ⟨hc.heap h.box h.sm, h.met.kept hc h.st, hh.bound, h.i0, h.i1, ownsRow_kept h.pr hc (fun k hk e => h.pm.2.2 k hk e), ownsRow_kept h.ke hc (fun k hk e => h.km.2.2 k hk e), ownsRow_kept h.cl hc (fun k hk e => h.cm.2.2 k hk e), h.mm, ?_, ?_, fun k hk => hk.2, ⟨h.pm.1, h.pm.2.1, ?_⟩, ⟨h.km.1, h.km.2.1, ?_⟩, ⟨h.cm.1, h.cm.2.1, ?_⟩, h.pk, h.pc, h.kc⟩
  · rintro ⟨h1 | h1, _⟩
    · exact h.sm h1
    · omega
  · rintro ⟨h1 | h1, _⟩
    · exact h.st h1
    · omega
  · rintro k hk ⟨h1 | h1, _⟩
    · exact h.pm.2.2 k hk h1
    · have := ownsRow_lt h.pr k hk; omega
  · rintro k hk ⟨h1 | h1, _⟩
    · exact h.km.2.2 k hk h1
    · have := ownsRow_lt h.ke k hk; omega
  · rintro k hk ⟨h1 | h1, _⟩
    · exact h.cm.2.2 k hk h1
    · have := ownsRow_lt h.cl k hk; omega
end Go.Proofs.YtahmnmpfjgddpaaGreatDoor
namespace Go.Proofs.YtahmnmpfjgddpaaGreatDoor
set_option linter.unusedVariables false
set_option linter.unusedSimpArgs false
open Go.RowKit

/-- a call that runs -/
structure Fr where
  fn : Nat
  at_ : Nat
  vars : List Int
  arrs : List Int
  stack : List Int
def top (l : List Int) : Int := l.getLastD 0
theorem top_snoc (l : List Int) (n : Int) : top (l ++ [n]) = n := by simp [top]
/-- an instruction that does not jump, call, or return: the error (0: none), the frame, and what else there is -/
def doesv (i : InsR) (f : Fr) (g : GS) : Int × Fr × GS :=
  if i.op = 1 then (0, { f with stack := f.stack ++ [i.n] }, g)
  else if i.op = 2 then (0, { f with stack := f.stack ++ [f.vars.getD i.a.toNat 0] }, g)
  else if i.op = 3 then (0, { f with vars := f.vars.set i.a.toNat (top f.stack), stack := f.stack.dropLast }, g)
  else if i.op = 19 then (0, { f with stack := f.stack.dropLast }, { g with pr := g.pr ++ [top f.stack] })
  else if i.op = 20 then (0, { f with stack := f.stack.dropLast }, { g with ke := g.ke ++ [top f.stack] })
  else if i.op = 21 then (if i.n = 0 then (0, { f with vars := f.vars.set i.a.toNat (g.i0.headD 0) }, { g with i0 := g.i0.tail }) else (0, { f with vars := f.vars.set i.a.toNat (g.i1.headD 0) }, { g with i1 := g.i1.tail }))
  else if i.op = 25 then (0, { f with stack := f.stack ++ [g.now] }, { g with cl := g.cl ++ [g.now] })
  else if i.op = 22 then ((makev g.q g.xss i.n).2.1, { f with arrs := f.arrs.set i.a.toNat (makev g.q g.xss i.n).1 }, { g with xss := (makev g.q g.xss i.n).2.2 })
  else if i.op = 23 then (match cellv g.xss (f.arrs.getD i.a.toNat 0) (top f.stack) with
    | some n => (0, { f with stack := f.stack.dropLast ++ [n] }, g)
    | none => (7, f, g))
  else if i.op = 24 then (match cellv g.xss (f.arrs.getD i.a.toNat 0) (top f.stack.dropLast) with
    | some _ => (0, { f with stack := f.stack.dropLast.dropLast }, { g with xss := setv g.xss (f.arrs.getD i.a.toNat 0) (top f.stack.dropLast) (top f.stack) })
    | none => (7, f, g))
  else if takesv i.op = 2 then (if (doV (i.op + 2) (top f.stack.dropLast) (top f.stack)).2 = true then (0, { f with stack := f.stack.dropLast.dropLast ++ [(doV (i.op + 2) (top f.stack.dropLast) (top f.stack)).1] }, g) else (7, f, g))
  else (if (doV (i.op + 2) (top f.stack) 0).2 = true then (0, { f with stack := f.stack.dropLast ++ [(doV (i.op + 2) (top f.stack) 0).1] }, g) else (7, f, g))

inductive Conf where
  | run (frs : List Fr) (g : GS)
  | over (g : GS) (res err : Int)
def newFr (fs : List FnR) (fn : Nat) (args : List Int) : Fr :=
  ⟨fn, 0, args ++ List.replicate ((fs.getD fn noFn).vs.toNat - args.length) 0, List.replicate (fs.getD fn noFn).ar.toNat (-1), []⟩
def curI (fs : List FnR) (f : Fr) : InsR := (fs.getD f.fn noFn).l.getD f.at_ noIns
/-- a call has ended: its number goes to who has called -/
def retC (n : Int) (rest : List Fr) (g : GS) : Conf :=
  match rest with
  | [] => .over g n 0
  | f :: r => .run ({ f with stack := f.stack ++ [n] } :: r) g
/-- how many numbers a call takes -/
def parsOf (fs : List FnR) (a : Int) : Nat := (fs.getD a.toNat noFn).ps.toNat
def step (fs : List FnR) : Conf → Conf
  | .over g r e => .over g r e
  | .run [] g => .over g 0 0
  | .run (f :: rest) g =>
    let i := curI fs f
    let g1 : GS := { g with now := g.now + costv i.op }
    let f1 : Fr := { f with at_ := f.at_ + 1 }
    if g1.fuel < g1.now then .over g1 0 8
    else if i.op = 18 then retC (top f.stack) rest g1
    else if i.op = 16 then (if top f.stack = 0 then .run ({ f1 with at_ := i.a.toNat, stack := f.stack.dropLast } :: rest) g1 else .run ({ f1 with stack := f.stack.dropLast } :: rest) g1)
    else if i.op = 15 then .run ({ f1 with at_ := i.a.toNat } :: rest) g1
    else if i.op = 17 then
      (if 64 < rest.length + 1 then .over g1 0 3
       else .run (newFr fs i.a.toNat (f.stack.drop (f.stack.length - parsOf fs i.a)) :: { f1 with stack := f.stack.take (f.stack.length - parsOf fs i.a) } :: rest) g1)
    else
      let r := doesv i f1 g1
      if r.1 = 0 then .run (r.2.1 :: rest) r.2.2 else .over r.2.2 0 r.1
def iter (fs : List FnR) : Nat → Conf → Conf
  | 0, c => c
  | k + 1, c => iter fs k (step fs c)
theorem iter_add (fs : List FnR) : ∀ (a b : Nat) (c : Conf), iter fs (a + b) c = iter fs b (iter fs a c)
  | 0, b, c => by rw [Nat.zero_add]; rfl
  | a + 1, b, c => by rw [show a + 1 + b = (a + b) + 1 by omega]; show iter fs (a + b) (step fs c) = _; rw [iter_add fs a b]; rfl
theorem iter_over (fs : List FnR) : ∀ (k : Nat) (g : GS) (r e : Int), iter fs k (.over g r e) = .over g r e
  | 0, _, _, _ => rfl
  | k + 1, g, r, e => iter_over fs k g r e
/-- what comes of a call: a number, or an error -/
def outC (n err : Int) (rest : List Fr) (g : GS) : Conf := if err = 0 then retC n rest g else .over g 0 err
/-- a frame has run to its end -/
def Ran (fs : List FnR) (f : Fr) (d : Nat) (g : GS) (n err : Int) (g' : GS) : Prop :=
  ∃ k, ∀ rest : List Fr, rest.length + 1 = d → iter fs k (.run (f :: rest) g) = outC n err rest g'

/-- the depths of a function that is right -/
noncomputable def depthsOf (fs : List FnR) (f : FnR) : Int → Option Int :=
  open Classical in if h : STy fs f then lookv (Classical.choose h) else fun _ => none
theorem depths_ok {fs : List FnR} {f : FnR} (h : STy fs f) : WTy fs f (depthsOf fs f) := by
  unfold depthsOf
  rw [dif_pos h]
  exact (Classical.choose_spec h).1
/-- a frame that is right -/
structure FrOk (fs : List FnR) (f : Fr) : Prop where
  fn : f.fn < fs.length
  dep : depthsOf fs (fs.getD f.fn noFn) (f.at_ : Int) = some (f.stack.length : Int)
  vars : (f.vars.length : Int) = (fs.getD f.fn noFn).vs
  arrs : (f.arrs.length : Int) = (fs.getD f.fn noFn).ar
end Go.Proofs.YtahmnmpfjgddpaaGreatDoor
namespace Go.Proofs.YtahmnmpfjgddpaaGreatDoor
set_option linter.unusedVariables false
set_option linter.unusedSimpArgs false
open Go.RowKit

def DoesP (W0 w : World) (X Y : Nat → Prop) (m : Nat) (V : Value) (d : Nat) (F : Nat) (i : InsR) (f : Fr) (g : GS) (e : Ending) (w' : World) : Prop :=
  ∃ X' Y' vars arrs stack, e = .returned (.int .i64 (doesv i f g).1) ∧ Ms W0 w' X' Y' m V d (doesv i f g).2.2 F vars arrs stack ∧ Gr w X Y w' X' Y' ∧ ((doesv i f g).1 = 0 → vars = (doesv i f g).2.1.vars ∧ arrs = (doesv i f g).2.1.arrs ∧ stack = (doesv i f g).2.1.stack)
/-- the frame's cells have changed, in a world behind some that keeps it -/
theorem FIs.of_st {w : World} {Y : Nat → Prop} {F : Nat} {VA VB VC : Value} {vars arrs stack : List Int} (h : FSt w F VA VB VC vars arrs stack) (h1 : Y F) (h2 : ∀ k, VA.ownBlock = some k → Y k) (h3 : ∀ k, VB.ownBlock = some k → Y k) (h4 : ∀ k, VC.ownBlock = some k → Y k) : FIs w (fun k => Y k ∨ w.heap.size ≤ k) F vars arrs stack :=
  ⟨VA, VB, VC, h, .inl h1, fun k hk => .inl (h2 k hk), fun k hk => .inl (h3 k hk), fun k hk => .inl (h4 k hk)⟩
theorem own_len {A : Option Addr} {n n' c c' : Nat} {Y : Nat → Prop} (h : ∀ k, (Value.slice A n c).ownBlock = some k → Y k) : ∀ k, (Value.slice A n' c').ownBlock = some k → Y k := fun k hk => h k (by cases A with | none => cases hk | some a => exact hk)

/-! ### next -/
def NextP (w : World) (m o : Nat) (V : Value) (l : List Int) (e : Ending) (w' : World) : Prop := e = .returned (.int .i64 (l.headD 0)) ∧ ((l = [] ∧ w' = w) ∨ ∃ V', w' = w.setCell ⟨m, o, none⟩ V' ∧ (∀ W, NumSrc W V l → NumSrc W V' l.tail))
set_option maxRecDepth 100000 in
theorem next_any {w : World} {m o : Nat} {V : Value} {l : List Int} (hc : w.cell? ⟨m, o, none⟩ = some V) (hf : w.frozen? ⟨m, o, none⟩ = false) (hl : NumSrc w V l) :
    Calls Tryz.prog 76 #[.pointer (some ⟨m, o, none⟩)] w fun e w' => NextP w m o V l e w' := by
  obtain ⟨A, c, rfl, h1, h2, h3⟩ := hl
  cases l with
  | nil =>
    simp only [List.length_nil] at hc
    clear h3
    go_enter Tryz.func76, Tryz.ntmps76
    go_wp2_with fail
    go_ret
    exact ⟨rfl, .inl ⟨rfl, rfl⟩⟩
  | cons x l =>
    obtain ⟨b, off, rfl, h4⟩ := h3 (by simp)
    have hx := h4 0 x rfl
    simp only [Nat.add_zero] at hx
    obtain ⟨n, hn⟩ : ∃ n, n = l.length := ⟨_, rfl⟩
    rw [List.length_cons, ← hn] at hc h1
    have hw : ∀ W, NumSrc W (.slice (some ⟨b, off, none⟩) (n + 1) c) (x :: l) → NumSrc W (.slice (if c = 1 then some ⟨b, off, none⟩ else some ⟨b, off + 1, none⟩) n (c - 1)) l := fun W h => by
      obtain ⟨A', c', e, g1, g2, g3⟩ := h
      injection e with e1 e2 e3
      subst e1 e3
      refine ⟨_, _, by rw [hn], by simp at g1; omega, by omega, fun h0 => ?_⟩
      obtain ⟨b', off', e, g4⟩ := g3 (by simp)
      injection e with e
      injection e with ea eb
      subst ea eb
      refine ⟨b, off + 1, by rw [if_neg (by omega)], fun j y hy => ?_⟩
      have := g4 (j + 1) y (by simpa using hy)
      rwa [show off + (j + 1) = off + 1 + j by omega] at this
    rw [List.length_cons, ← hn]
    have hcm : c ≤ 9223372036854775807 := by simpa [maxLen] using h2
    by_cases hc1 : c = 1
    · subst hc1
      rw [if_pos rfl] at hw
      obtain rfl : n = 0 := by omega
      have HW := Lib.hid hw
      clear h3 h4 hn hw
      go_enter Tryz.func76, Tryz.ntmps76
      go_wp2_with fail
      go_ret
      exact ⟨rfl, .inr ⟨_, rfl, fun W h => HW.out W h⟩⟩
    · rw [if_neg hc1] at hw
      have HW := Lib.hid hw
      clear h3 h4 hn hw
      go_enter Tryz.func76, Tryz.ntmps76
      go_wp2_with fail
      go_ret
      exact ⟨rfl, .inr ⟨_, rfl, fun W h => HW.out W h⟩⟩
set_option maxHeartbeats 4000000 in
set_option maxRecDepth 100000 in
theorem does_push {W0 w : World} {X Y : Nat → Prop} {m : Nat} {V : Value} {d : Nat} {g : GS} {F : Nat} {f : Fr} (h : Ms W0 w X Y m V d g F f.vars f.arrs f.stack) (a nn : Int) (hl : f.stack.length ≤ 1099511627776) :
    Calls Tryz.prog 61 #[.pointer (some ⟨m, 0, none⟩), .pointer (some ⟨F, 0, none⟩), .agg #[.int .i64 1, .int .i64 a, .int .i64 nn]] w (DoesP W0 w X Y m V d F ⟨1, a, nn⟩ f g) := by
  obtain ⟨fn, at_, vars, arrs, stack⟩ := f
  simp only at h hl
  obtain ⟨w0, hw0⟩ : ∃ w0, w0 = w.alloc (.cells #[.int .i64 1, .int .i64 a, .int .i64 nn] 42) := ⟨_, rfl⟩
  obtain ⟨P0, hP0⟩ : ∃ P0, P0 = w.heap.size := ⟨_, rfl⟩
  have hc0 : Chg (fun _ => False) w w0 := by rw [hw0]; exact (Chg.refl _ _).alloc _
  have hi0 : w0.heap[P0]? = some (.cells #[.int .i64 1, .int .i64 a, .int .i64 nn] 42 (0, 0)) := by rw [hw0]; exact heap_new' hP0.symm
  obtain ⟨hm0, hg0⟩ := h.still hc0
  have HM0 := Lib.hid hm0
  have HG0 := Lib.hid hg0
  have HI0 := Lib.hid hi0
  have HWE := Lib.hid (And.intro hw0 hP0)
  have HPN : Hid (¬ X P0 ∧ ¬ Y P0) := Lib.hid ⟨fun e => by have := (h.lx _ e).2; omega, fun e => by have := (h.ly _ e).2; omega⟩
  have i0 := cell_of_block hi0 0
  have i1 := cell_of_block hi0 1
  have i2 := cell_of_block hi0 2
  simp at i0 i1 i2
  have CP := Lib.hid (push_any nn hm0.fi hl)
  clear h hw0 hP0 hc0 hi0 hm0 hg0
  go_enter Tryz.func61, Tryz.ntmps61
  go_upto_region 1 with fail
  rw [← HWE.out.1, ← HWE.out.2]
  go_wp2_with fail
  refine CP.out.mono ?_; rintro e w1 ⟨rfl, hf, hc⟩
  obtain ⟨Y', hm1, hg1⟩ := HM0.out.frame hf hc
  have HF := Lib.hid (And.intro hm1 (HG0.out.trans hg1))
  clear hf hc hm1 hg1
  go_wp2_with fail
  go_ret
  exact ⟨X, Y', _, _, _, rfl, HF.out.1, HF.out.2, fun _ => ⟨rfl, rfl, rfl⟩⟩
set_option maxHeartbeats 4000000 in
set_option maxRecDepth 100000 in
theorem does_load {W0 w : World} {X Y : Nat → Prop} {m : Nat} {V : Value} {d : Nat} {g : GS} {F : Nat} {f : Fr} (h : Ms W0 w X Y m V d g F f.vars f.arrs f.stack) (j : Nat) (nn : Int) (hj : j < f.vars.length) (hv : f.vars.length ≤ 1048576) (hl : f.stack.length ≤ 1099511627776) :
    Calls Tryz.prog 61 #[.pointer (some ⟨m, 0, none⟩), .pointer (some ⟨F, 0, none⟩), .agg #[.int .i64 2, .int .i64 (j : Int), .int .i64 nn]] w (DoesP W0 w X Y m V d F ⟨2, (j : Int), nn⟩ f g) := by
  obtain ⟨fn, at_, vars, arrs, stack⟩ := f
  simp only at h hj hv hl
  obtain ⟨w0, hw0⟩ : ∃ w0, w0 = w.alloc (.cells #[.int .i64 2, .int .i64 (j : Int), .int .i64 nn] 42) := ⟨_, rfl⟩
  obtain ⟨P0, hP0⟩ : ∃ P0, P0 = w.heap.size := ⟨_, rfl⟩
  have hc0 : Chg (fun _ => False) w w0 := by rw [hw0]; exact (Chg.refl _ _).alloc _
  have hi0 : w0.heap[P0]? = some (.cells #[.int .i64 2, .int .i64 (j : Int), .int .i64 nn] 42 (0, 0)) := by rw [hw0]; exact heap_new' hP0.symm
  obtain ⟨hm0, hg0⟩ := h.still hc0
  have HM0 := Lib.hid hm0
  have HG0 := Lib.hid hg0
  have HI0 := Lib.hid hi0
  have HWE := Lib.hid (And.intro hw0 hP0)
  have HPN : Hid (¬ X P0 ∧ ¬ Y P0) := Lib.hid ⟨fun e => by have := (h.lx _ e).2; omega, fun e => by have := (h.ly _ e).2; omega⟩
  have i0 := cell_of_block hi0 0
  have i1 := cell_of_block hi0 1
  have i2 := cell_of_block hi0 2
  simp at i0 i1 i2
  obtain ⟨VA, VB, VC, hs, hY1, hY2, hY3, hY4⟩ := hm0.fi
  obtain ⟨_, A, c, rfl⟩ := ownsRow_slice hs.va
  obtain ⟨b, rfl, hb, hcap, hfz, hcell⟩ := ownsRow_cell hs.va j hj
  have hx := hcell _ (nums_get vars j hj)
  have c0 := cell_of_block hs.box 0
  simp at c0
  obtain ⟨x, hxe⟩ : ∃ x, x = vars[j] := ⟨_, rfl⟩
  rw [← hxe] at hx
  obtain ⟨n, hn⟩ : ∃ n, n = vars.length := ⟨_, rfl⟩
  have hjn : j < n := by omega
  rw [← hn] at c0 hcap
  have HN := Lib.hid hn
  have HXE := Lib.hid hxe
  have HS := Lib.hid hs
  have HY := Lib.hid (And.intro hY1 (And.intro hY2 (And.intro hY3 hY4)))
  have hnb : n ≤ 1048576 := by omega
  clear hxe hn

  clear h hw0 hP0 hc0 hi0 hm0 hg0
  go_enter Tryz.func61, Tryz.ntmps61
  go_upto_region 1 with fail
  rw [← HWE.out.1, ← HWE.out.2]
  have hjl := hj
  go_upto_region 6 with fail
  obtain ⟨wd, hwd⟩ : ∃ wd, wd = w0.drew := ⟨_, rfl⟩
  have hS : wd.cell? ⟨F, 0, none⟩ = some (.slice (some ⟨b, 0, none⟩) n c) ∧ wd.cell? ⟨b, j, none⟩ = some (.int .i64 x) ∧ wd.cell? ⟨P0, 1, none⟩ = some (.int .i64 (j : Int)) := by rw [hwd]; exact ⟨c0, hx, i1⟩
  obtain ⟨hmd, hgd⟩ := HM0.out.still (w' := wd) (by rw [hwd]; exact (Chg.refl _ _).drew)
  have CP := push_any x hmd.fi hl
  refine wp_region_ord (S := fun w' => w'.cell? ⟨F, 0, none⟩ = some (.slice (some ⟨b, 0, none⟩) n c) ∧ w'.cell? ⟨b, j, none⟩ = some (.int .i64 x) ∧ w'.cell? ⟨P0, 1, none⟩ = some (.int .i64 (j : Int))) (N := fun i => i != 9) (by kernel_rfl) [(0, true), (1, true), (2, true), (3, true), (4, true), (5, true), (6, true), (7, true), (8, true), (9, false)] (by kernel_rfl) ?_
  rw [← hwd]
  have HGD := Lib.hid (HG0.out.trans hgd)
  have HMD := Lib.hid hmd
  clear hwd hmd hgd c0 hx i0 i1 i2
  iterate 9 (refine ord_look rfl hS rfl (by intro w hS; obtain ⟨p0, p1, p2⟩ := hS; go_simp; with_reducible rfl) (fun c a w h => h) ?_; simp only [Act.put, List.setIfInBounds_toArray, List.set_cons_succ, List.set_cons_zero])
  refine ord_act rfl rfl (fun K hK => ?_)
  refine wp_call 74 _ _ Tryz.func74 rfl (by kernel_rfl) _ _ rfl #[.pointer (some ⟨F, 0, none⟩), .int .i64 x] (by simp [Act.eval]) (R := fun v w' => v = .tuple #[] ∧ FIs w' (fun k => Y k ∨ wd.heap.size ≤ k) F vars arrs (stack ++ [x]) ∧ Chg Y wd w') (calls_ret CP (by rintro e w' ⟨rfl, h1, h2⟩; exact ⟨_, rfl, rfl, h1, h2⟩)) ?_
  rintro v w1 ⟨rfl, hf, hc⟩
  refine hK _ _ ⟨(fun h => by cases h), ?_⟩
  clear hK K
  try simp only [Act.put, List.setIfInBounds_toArray, List.set_cons_succ, List.set_cons_zero]
  refine ord_end ?_
  obtain ⟨Y', hm1, hg1⟩ := HMD.out.frame hf hc
  have HF := Lib.hid (And.intro hm1 (HGD.out.trans hg1))
  clear hf hc hm1 hg1 hS CP
  go_wp2_with fail
  go_ret
  have ex : vars.getD j 0 = x := by rw [HXE.out, List.getD_eq_getElem?_getD, List.getElem?_eq_getElem (by rw [← HN.out]; exact hjn)]; rfl
  refine ⟨X, Y', _, _, _, rfl, HF.out.1, HF.out.2, fun _ => ⟨rfl, rfl, ?_⟩⟩
  show stack ++ [x] = stack ++ [vars.getD ((j : Int)).toNat 0]
  rw [show ((j : Int)).toNat = j by omega, ex]
set_option maxHeartbeats 4000000 in
set_option maxRecDepth 100000 in
theorem does_store {W0 w : World} {X Y : Nat → Prop} {m : Nat} {V : Value} {d : Nat} {g : GS} {F : Nat} {f : Fr} (h : Ms W0 w X Y m V d g F f.vars f.arrs f.stack) (j : Nat) (nn : Int) (s : List Int) (y : Int) (hst : f.stack = s ++ [y]) (hj : j < f.vars.length) (hv : f.vars.length ≤ 1048576) (hl : f.stack.length ≤ 1099511627776) :
    Calls Tryz.prog 61 #[.pointer (some ⟨m, 0, none⟩), .pointer (some ⟨F, 0, none⟩), .agg #[.int .i64 3, .int .i64 (j : Int), .int .i64 nn]] w (DoesP W0 w X Y m V d F ⟨3, (j : Int), nn⟩ f g) := by
  obtain ⟨fn, at_, vars, arrs, stack⟩ := f
  simp only at h hst hj hv hl
  obtain ⟨w0, hw0⟩ : ∃ w0, w0 = w.alloc (.cells #[.int .i64 3, .int .i64 (j : Int), .int .i64 nn] 42) := ⟨_, rfl⟩
  obtain ⟨P0, hP0⟩ : ∃ P0, P0 = w.heap.size := ⟨_, rfl⟩
  have hc0 : Chg (fun _ => False) w w0 := by rw [hw0]; exact (Chg.refl _ _).alloc _
  have hi0 : w0.heap[P0]? = some (.cells #[.int .i64 3, .int .i64 (j : Int), .int .i64 nn] 42 (0, 0)) := by rw [hw0]; exact heap_new' hP0.symm
  obtain ⟨hm0, hg0⟩ := h.still hc0
  have HM0 := Lib.hid hm0
  have HG0 := Lib.hid hg0
  have HI0 := Lib.hid hi0
  have HWE := Lib.hid (And.intro hw0 hP0)
  have HPN : Hid (¬ X P0 ∧ ¬ Y P0) := Lib.hid ⟨fun e => by have := (h.lx _ e).2; omega, fun e => by have := (h.ly _ e).2; omega⟩
  have i0 := cell_of_block hi0 0
  have i1 := cell_of_block hi0 1
  have i2 := cell_of_block hi0 2
  simp at i0 i1 i2
  subst hst
  obtain ⟨VA, VB, VC, hs, hY1, hY2, hY3, hY4⟩ := hm0.fi
  obtain ⟨_, A, c, rfl⟩ := ownsRow_slice hs.va
  obtain ⟨b, rfl, hb, hcap, hfz, hcell⟩ := ownsRow_cell hs.va j hj
  have hx := hcell _ (nums_get vars j hj)
  have c0 := cell_of_block hs.box 0
  simp at c0
  obtain ⟨x, hxe⟩ : ∃ x, x = vars[j] := ⟨_, rfl⟩
  rw [← hxe] at hx
  obtain ⟨n, hn⟩ : ∃ n, n = vars.length := ⟨_, rfl⟩
  have hjn : j < n := by omega
  rw [← hn] at c0 hcap
  have HN := Lib.hid hn
  have HXE := Lib.hid hxe
  have HS := Lib.hid hs
  have HY := Lib.hid (And.intro hY1 (And.intro hY2 (And.intro hY3 hY4)))
  have hnb : n ≤ 1048576 := by omega
  clear hxe hn
  obtain ⟨_, A3, c3, rfl⟩ := ownsRow_slice hs.vc
  have esl : (s ++ [y]).length = s.length + 1 := by simp
  rw [esl] at hs hl hY4
  have HYC := Lib.hid hY4
  have CP := Lib.hid (pop_st (hs.kept ((Chg.refl (fun _ => False) w0).drew) (fun x => x) (fun _ _ x => x) (fun _ _ x => x) (fun _ _ x => x)) (by omega))
  clear h hw0 hP0 hc0 hi0 hm0 hg0
  go_enter Tryz.func61, Tryz.ntmps61
  go_upto_region 1 with fail
  rw [← HWE.out.1, ← HWE.out.2]
  go_upto_region 8 with fail
  obtain ⟨wd, hwd⟩ : ∃ wd, wd = w0.drew := ⟨_, rfl⟩
  have hS : wd.cell? ⟨F, 0, none⟩ = some (.slice (some ⟨b, 0, none⟩) n c) ∧ wd.cell? ⟨P0, 1, none⟩ = some (.int .i64 (j : Int)) := by rw [hwd]; exact ⟨c0, i1⟩
  obtain ⟨hmd, hgd⟩ := HM0.out.still (w' := wd) (by rw [hwd]; exact (Chg.refl _ _).drew)
  refine wp_region_ord (S := fun w' => w'.cell? ⟨F, 0, none⟩ = some (.slice (some ⟨b, 0, none⟩) n c) ∧ w'.cell? ⟨P0, 1, none⟩ = some (.int .i64 (j : Int))) (N := fun i => i != 9) (by kernel_rfl) [(0, true), (1, true), (2, true), (3, true), (4, true), (5, true), (6, true), (7, false), (8, true), (9, false)] (by kernel_rfl) ?_
  rw [← hwd]
  rw [← hwd] at CP
  have HGD := Lib.hid (HG0.out.trans hgd)
  have HMD := Lib.hid hmd
  have HI1 : Hid (wd.cell? ⟨P0, 1, none⟩ = some (.int .i64 (j : Int))) := Lib.hid hS.2
  clear hwd hmd hgd c0 hx i0 i1 i2
  iterate 7 (refine ord_look rfl hS rfl (by intro w hS; obtain ⟨p0, p1⟩ := hS; go_simp; with_reducible rfl) (fun c a w h => h) ?_; simp only [Act.put, List.setIfInBounds_toArray, List.set_cons_succ, List.set_cons_zero])
  refine ord_act rfl rfl (fun K hK => ?_)
  refine wp_call 60 _ _ Tryz.func60 rfl (by kernel_rfl) _ _ rfl #[.pointer (some ⟨F, 0, none⟩)] (by simp [Act.eval]) (R := fun v w' => v = .int .i64 y ∧ FSt w' F (.slice (some ⟨b, 0, none⟩) vars.length c) VB (.slice A3 s.length c3) vars arrs s ∧ Chg (fun k => k = F) wd w') (calls_ret CP.out (by rintro e w' ⟨rfl, h1, h2⟩; exact ⟨_, rfl, rfl, h1, h2⟩)) ?_
  rintro v w1 ⟨rfl, hf, hc⟩
  have d0 := cell_of_block hf.box 0
  simp at d0
  rw [← HN.out] at d0
  have hS1 : w1.cell? ⟨F, 0, none⟩ = some (.slice (some ⟨b, 0, none⟩) n c) ∧ w1.cell? ⟨P0, 1, none⟩ = some (.int .i64 (j : Int)) := ⟨d0, hc.cell HI1.out (fun e => HPN.out.2 (by have e : P0 = F := e; rw [e]; exact HY.out.1))⟩
  refine hK _ _ ⟨fun _ => hS1, ?_⟩
  clear hK K hS
  have hS := hS1
  try simp only [Act.put, List.setIfInBounds_toArray, List.set_cons_succ, List.set_cons_zero]
  iterate 1 (refine ord_look rfl hS rfl (by intro w hS; obtain ⟨p0, p1⟩ := hS; go_simp; with_reducible rfl) (fun c a w h => h) ?_; simp only [Act.put, List.setIfInBounds_toArray, List.set_cons_succ, List.set_cons_zero])
  refine ord_act rfl rfl (fun K hK => ?_)
  obtain ⟨b', e1, _, _, hfz1, hcell1⟩ := ownsRow_cell hf.va j (by rw [← HN.out]; exact hjn)
  have e1 : b' = b := by injection e1 with e1; injection e1 with e1 _; exact e1.symm
  subst e1
  have hxc := hcell1 _ (nums_get vars j (by rw [← HN.out]; exact hjn))
  go_simp
  refine hK _ _ ⟨(fun h => by cases h), ?_⟩
  clear hK K
  try simp only [Act.put, List.setIfInBounds_toArray, List.set_cons_succ, List.set_cons_zero]
  refine ord_end ?_
  have hf2 := hf.setvar j (by rw [← HN.out]; exact hjn) y
  have hc2 := Chg.set_cell (w := w1) ⟨b', j, none⟩ (.int .i64 y)
  have hfi : FIs (w1.setCell ⟨b', j, none⟩ (.int .i64 y)) (fun k => Y k ∨ wd.heap.size ≤ k) F (vars.set j y) arrs s := ⟨_, _, _, hf2, .inl HY.out.1, fun k hk => .inl (HY.out.2.1 k hk), fun k hk => .inl (HY.out.2.2.1 k hk), fun k hk => .inl (own_len HYC.out k hk)⟩
  have hcc : Chg Y wd (w1.setCell ⟨b', j, none⟩ (.int .i64 y)) := (hc.mono (fun k _ e => by rw [e]; exact HY.out.1)).then (hc2.mono (fun k _ e => HY.out.2.1 k (by have e : k = b' := e; rw [e]; rfl)))
  obtain ⟨Y', hm1, hg1⟩ := HMD.out.frame hfi hcc
  have HF := Lib.hid (And.intro hm1 (HGD.out.trans hg1))
  clear hf hc hm1 hg1 hS CP hfi hcc hf2 hc2 hxc hfz1 hcell1 d0 hS1
  go_wp2_with fail
  go_ret
  refine ⟨X, Y', _, _, _, rfl, HF.out.1, HF.out.2, fun _ => ⟨?_, rfl, ?_⟩⟩
  · show vars.set j y = vars.set ((j : Int)).toNat (top (s ++ [y]))
    rw [show ((j : Int)).toNat = j by omega, top_snoc]
  · show s = (s ++ [y]).dropLast
    simp
set_option maxHeartbeats 4000000 in
set_option maxRecDepth 100000 in
theorem does_print {W0 w : World} {X Y : Nat → Prop} {m : Nat} {V : Value} {d : Nat} {g : GS} {F : Nat} {f : Fr} (h : Ms W0 w X Y m V d g F f.vars f.arrs f.stack) (a nn : Int) (s : List Int) (y : Int) (hst : f.stack = s ++ [y]) (hp : g.pr.length ≤ 1099511627776) (hl : f.stack.length ≤ 1099511627776) :
    Calls Tryz.prog 61 #[.pointer (some ⟨m, 0, none⟩), .pointer (some ⟨F, 0, none⟩), .agg #[.int .i64 19, .int .i64 a, .int .i64 nn]] w (DoesP W0 w X Y m V d F ⟨19, a, nn⟩ f g) := by
  obtain ⟨fn, at_, vars, arrs, stack⟩ := f
  simp only at h hst hp hl
  obtain ⟨w0, hw0⟩ : ∃ w0, w0 = w.alloc (.cells #[.int .i64 19, .int .i64 a, .int .i64 nn] 42) := ⟨_, rfl⟩
  obtain ⟨P0, hP0⟩ : ∃ P0, P0 = w.heap.size := ⟨_, rfl⟩
  have hc0 : Chg (fun _ => False) w w0 := by rw [hw0]; exact (Chg.refl _ _).alloc _
  have hi0 : w0.heap[P0]? = some (.cells #[.int .i64 19, .int .i64 a, .int .i64 nn] 42 (0, 0)) := by rw [hw0]; exact heap_new' hP0.symm
  obtain ⟨hm0, hg0⟩ := h.still hc0
  have HM0 := Lib.hid hm0
  have HG0 := Lib.hid hg0
  have HI0 := Lib.hid hi0
  have HWE := Lib.hid (And.intro hw0 hP0)
  have HPN : Hid (¬ X P0 ∧ ¬ Y P0) := Lib.hid ⟨fun e => by have := (h.lx _ e).2; omega, fun e => by have := (h.ly _ e).2; omega⟩
  have i0 := cell_of_block hi0 0
  have i1 := cell_of_block hi0 1
  have i2 := cell_of_block hi0 2
  simp at i0 i1 i2
  subst hst
  have esl : (s ++ [y]).length = s.length + 1 := by simp
  rw [esl] at hl
  obtain ⟨mt, hp_, Sh, I0, I1, P, K, C, hms, hin⟩ := hm0.mi
  obtain ⟨_, QA, qc, rfl⟩ := ownsRow_slice hms.pr
  have cq := cell_of_block hms.box 7
  simp at cq
  obtain ⟨L, hL⟩ : ∃ L, L = g.pr.length := ⟨_, rfl⟩
  rw [← hL] at cq hp
  have HLL := Lib.hid hL
  clear hL
  have HIN := Lib.hid hin
  obtain ⟨i9, hi9, hz0, hz1, hz2⟩ := info_parts infoL
  have CP := Lib.hid (pop_any (hm0.still (w' := w0.drew) ((Chg.refl _ _).drew)).1.fi (by omega))
  clear h hw0 hP0 hc0 hi0 hm0 hg0
  go_enter Tryz.func61, Tryz.ntmps61
  go_upto_region 1 with fail
  rw [← HWE.out.1, ← HWE.out.2]
  go_upto_region 12 with fail
  obtain ⟨wd, hwd⟩ : ∃ wd, wd = w0.drew := ⟨_, rfl⟩
  have hS : wd.cell? ⟨m, 7, none⟩ = some (.slice QA L qc) := by rw [hwd]; exact cq
  obtain ⟨hmd, hgd⟩ := HM0.out.still (w' := wd) (by rw [hwd]; exact (Chg.refl _ _).drew)
  have hmsd := hms.kept (w' := wd) (T := fun _ => False) (by rw [hwd]; exact (Chg.refl _ _).drew) HIN.out (fun _ _ x => x)
  refine wp_region_ord (S := fun w' => w'.cell? ⟨m, 7, none⟩ = some (.slice QA L qc)) (N := fun i => i != 13) (by kernel_rfl) [(0, true), (1, true), (2, true), (3, true), (4, true), (5, true), (6, true), (7, false), (8, false), (9, false), (10, true), (11, true), (12, true), (13, false)] (by kernel_rfl) ?_
  rw [← hwd]
  rw [← hwd] at CP
  have HGD := Lib.hid (HG0.out.trans hgd)
  have HMD := Lib.hid hmd
  clear hwd hmd hgd cq i0 i1 i2 hms
  iterate 7 (refine ord_look rfl hS rfl (by intro w hS; go_simp; with_reducible rfl) (fun c a w h => h) ?_; simp only [Act.put, List.setIfInBounds_toArray, List.set_cons_succ, List.set_cons_zero])
  refine ord_act rfl rfl (fun K hK => ?_)
  refine wp_call 60 _ _ Tryz.func60 rfl (by kernel_rfl) _ _ rfl #[.pointer (some ⟨F, 0, none⟩)] (by simp [Act.eval]) (R := fun v w' => v = .int .i64 y ∧ FIs w' Y F vars arrs s ∧ Chg (fun k => k = F) wd w') (calls_ret CP.out (by rintro e w' ⟨rfl, h1, h2⟩; exact ⟨_, rfl, rfl, h1, h2⟩)) ?_
  rintro v w1 ⟨rfl, hf, hc⟩
  have hYF : Y F := by obtain ⟨_, _, _, _, h, _⟩ := HMD.out.fi; exact h
  have hcY : Chg Y wd w1 := hc.mono (fun k _ e => by rw [e]; exact hYF)
  have hm1s := hmsd.kept hcY HIN.out (fun k hk => HMD.out.xy k hk)
  obtain ⟨Y1, hm1, hg1⟩ := HMD.out.frame (hf.mono (fun k hk _ => .inl hk)) hcY
  have hS1 : w1.cell? ⟨m, 7, none⟩ = some (.slice QA L qc) := hcY.cell hS (fun e => HMD.out.xy m HIN.out.m e)
  refine hK _ _ ⟨fun _ => hS1, ?_⟩
  clear hK K
  try simp only [Act.put, List.setIfInBounds_toArray, List.set_cons_succ, List.set_cons_zero]
  refine ord_act rfl rfl (fun K hK => ?_)
  go_simp
  obtain ⟨wx, hwx⟩ : ∃ wx, wx = w1.alloc (.cells #[.int .i64 y] 2) := ⟨_, rfl⟩
  obtain ⟨gg, hgg⟩ : ∃ gg, gg = w1.heap.size := ⟨_, rfl⟩
  have hcx : Chg (fun _ => False) w1 wx := by rw [hwx]; exact (Chg.refl _ _).alloc _
  have hszx : wx.heap.size = gg + 1 := by rw [hwx, hgg]; simp
  have hnews : ∀ (j : Nat) u, ([.int .i64 y] : List Value)[j]? = some u → wx.cell? ((⟨gg, 0, none⟩ : Addr).add j) = some u := World.news_of_block (cs := #[.int .i64 y]) (t := 2) (fr := (0, 0)) (by rw [hwx]; exact heap_new' hgg.symm)
  have hmxs := hm1s.kept hcx HIN.out (fun _ _ x => x)
  rw [← hwx, ← hgg]
  have hSx : wx.cell? ⟨m, 7, none⟩ = some (.slice QA L qc) := hcx.cell hS1 (fun x => x)
  refine hK _ _ ⟨fun _ => hSx, ?_⟩
  clear hK K hwx
  try simp only [Act.put, List.setIfInBounds_toArray, List.set_cons_succ, List.set_cons_zero]
  refine ord_act rfl rfl (fun K hK => ?_)
  have hrow := hmxs.pr
  rw [← HLL.out] at hrow
  refine wp_append_lies _ (.tmp 57) (.tmp 60) 25 rfl 0 2 i9 _ 1 8 Tryz.underlying25 hi9 hz0 hz1 hz2 rfl (by omega) (.slice QA L qc) L (nums g.pr) rfl hrow ⟨gg, 0, none⟩ 1 1 [.int .i64 y] rfl rfl hnews (by simp [Value.oneCell']) (by omega) (by unfold maxLen; omega) (by omega) (by omega) (gg + 1) hszx ?_
  intro q cap2 w2 hown2 hgrow2 hat2 hlt2
  have hc2 := Chg.of_grown hgrow2
  have hmne : ¬ (Value.slice QA L qc).ownBlock = some m := fun e => by
    have := hmxs.pm.1
    rw [← HLL.out] at this
    exact this e
  have hb2 := hc2.heap hmxs.box hmne
  have hS2 : w2.cell? ⟨m, 7, none⟩ = some (.slice QA L qc) := hc2.cell hSx hmne
  refine hK _ _ ⟨fun _ => hS2, ?_⟩
  clear hK K
  try simp only [Act.put, List.setIfInBounds_toArray, List.set_cons_succ, List.set_cons_zero]
  clear hS
  have hS := hS2
  iterate 3 (refine ord_look rfl hS rfl (by intro w hS; go_simp; with_reducible rfl) (fun c a w h => h) ?_; simp only [Act.put, List.setIfInBounds_toArray, List.set_cons_succ, List.set_cons_zero])
  refine ord_act rfl rfl (fun K hK => ?_)
  have hfz := frozen_of_block hb2 7
  go_simp
  refine hK _ _ ⟨(fun h => by cases h), ?_⟩
  clear hK K
  try simp only [Act.put, List.setIfInBounds_toArray, List.set_cons_succ, List.set_cons_zero]
  refine ord_end ?_
  have hrr : w2.ownsRow 0 2 1 (.slice (some ⟨q, 0, none⟩) (L + 1) cap2) (L + 1) (nums (g.pr ++ [y])) := by rw [nums_snoc]; exact hown2
  have hms2 := hmxs.set7 (x := y) (q := q) (cap := cap2) (L := L + 1) (by rw [← HLL.out]; exact hc2) hrr (by rw [← HLL.out]) (by rw [← HLL.out]; rcases hat2 with h | h; exact .inl h; exact .inr (by omega))
  have hsx := Chg.set_cell (w := w2) ⟨m, 7, none⟩ (.slice (some ⟨q, 0, none⟩) (L + 1) cap2)
  have hcX : Chg X wx (w2.setCell ⟨m, 7, none⟩ (.slice (some ⟨q, 0, none⟩) (L + 1) cap2)) := (hc2.mono (fun k _ e => HIN.out.p k (by rw [← HLL.out]; exact e))).then (hsx.mono (fun k _ e => by have e : k = m := e; rw [e]; exact HIN.out.m))
  have hin2 : MIn (fun k => X k ∨ wx.heap.size ≤ k) m mt Sh (.slice (some ⟨q, 0, none⟩) (L + 1) cap2) K C := ⟨.inl HIN.out.m, .inl HIN.out.mt, fun k hk => .inl (HIN.out.sh k hk), fun k hk => by
    have hk : some q = some k := hk
    injection hk with hk
    rw [← hk]
    rcases hat2 with h | h
    · exact .inl (HIN.out.p q (by rw [← HLL.out]; exact h))
    · exact .inr (by omega), fun k hk => .inl (HIN.out.k k hk), fun k hk => .inl (HIN.out.c k hk)⟩
  have hmi : MIs W0 _ (fun k => X k ∨ wx.heap.size ≤ k) m V d { g with pr := g.pr ++ [y] } := ⟨mt, hp_, Sh, I0, I1, _, _, _, hms2, hin2⟩
  obtain ⟨hmx, hgx⟩ := hm1.still hcx
  obtain ⟨X', hm2, hg2⟩ := hmx.mach hmi hcX
  have HF := Lib.hid (And.intro hm2 (((HGD.out.trans hg1).trans hgx).trans hg2))
  clear hf hc hm1 hg1 CP hm1s hmxs hms2 hsx hcX hin2 hmi hmx hgx hm2 hg2 hrr hown2 hgrow2 hat2 hc2 hb2 hrow hcx hcY hmsd hnews hS1 hS2 hSx hfz hS
  go_wp2_with fail
  go_ret
  refine ⟨X', Y1, vars, arrs, s, rfl, ?_, HF.out.2, fun _ => ⟨rfl, rfl, ?_⟩⟩
  · have e : (doesv ⟨19, a, nn⟩ ⟨fn, at_, vars, arrs, s ++ [y]⟩ g).2.2 = { g with pr := g.pr ++ [y] } := by
      show { g with pr := g.pr ++ [top (s ++ [y])] } = _
      rw [top_snoc]
    rw [e]
    exact HF.out.1
  · show s = (s ++ [y]).dropLast
    simp
set_option maxHeartbeats 4000000 in
set_option maxRecDepth 100000 in
theorem does_keep {W0 w : World} {X Y : Nat → Prop} {m : Nat} {V : Value} {d : Nat} {g : GS} {F : Nat} {f : Fr} (h : Ms W0 w X Y m V d g F f.vars f.arrs f.stack) (a nn : Int) (s : List Int) (y : Int) (hst : f.stack = s ++ [y]) (hp : g.ke.length ≤ 1099511627776) (hl : f.stack.length ≤ 1099511627776) :
    Calls Tryz.prog 61 #[.pointer (some ⟨m, 0, none⟩), .pointer (some ⟨F, 0, none⟩), .agg #[.int .i64 20, .int .i64 a, .int .i64 nn]] w (DoesP W0 w X Y m V d F ⟨20, a, nn⟩ f g) := by
  obtain ⟨fn, at_, vars, arrs, stack⟩ := f
  simp only at h hst hp hl
  obtain ⟨w0, hw0⟩ : ∃ w0, w0 = w.alloc (.cells #[.int .i64 20, .int .i64 a, .int .i64 nn] 42) := ⟨_, rfl⟩
  obtain ⟨P0, hP0⟩ : ∃ P0, P0 = w.heap.size := ⟨_, rfl⟩
  have hc0 : Chg (fun _ => False) w w0 := by rw [hw0]; exact (Chg.refl _ _).alloc _
  have hi0 : w0.heap[P0]? = some (.cells #[.int .i64 20, .int .i64 a, .int .i64 nn] 42 (0, 0)) := by rw [hw0]; exact heap_new' hP0.symm
  obtain ⟨hm0, hg0⟩ := h.still hc0
  have HM0 := Lib.hid hm0
  have HG0 := Lib.hid hg0
  have HI0 := Lib.hid hi0
  have HWE := Lib.hid (And.intro hw0 hP0)
  have HPN : Hid (¬ X P0 ∧ ¬ Y P0) := Lib.hid ⟨fun e => by have := (h.lx _ e).2; omega, fun e => by have := (h.ly _ e).2; omega⟩
  have i0 := cell_of_block hi0 0
  have i1 := cell_of_block hi0 1
  have i2 := cell_of_block hi0 2
  simp at i0 i1 i2
  subst hst
  have esl : (s ++ [y]).length = s.length + 1 := by simp
  rw [esl] at hl
  obtain ⟨mt, hp_, Sh, I0, I1, P, K, C, hms, hin⟩ := hm0.mi
  obtain ⟨_, QA, qc, rfl⟩ := ownsRow_slice hms.ke
  have cq := cell_of_block hms.box 8
  simp at cq
  obtain ⟨L, hL⟩ : ∃ L, L = g.ke.length := ⟨_, rfl⟩
  rw [← hL] at cq hp
  have HLL := Lib.hid hL
  clear hL
  have HIN := Lib.hid hin
  obtain ⟨i9, hi9, hz0, hz1, hz2⟩ := info_parts infoL
  have CP := Lib.hid (pop_any (hm0.still (w' := w0.drew) ((Chg.refl _ _).drew)).1.fi (by omega))
  clear h hw0 hP0 hc0 hi0 hm0 hg0
  go_enter Tryz.func61, Tryz.ntmps61
  go_upto_region 1 with fail
  rw [← HWE.out.1, ← HWE.out.2]
  go_upto_region 14 with fail
  obtain ⟨wd, hwd⟩ : ∃ wd, wd = w0.drew := ⟨_, rfl⟩
  have hS : wd.cell? ⟨m, 8, none⟩ = some (.slice QA L qc) := by rw [hwd]; exact cq
  obtain ⟨hmd, hgd⟩ := HM0.out.still (w' := wd) (by rw [hwd]; exact (Chg.refl _ _).drew)
  have hmsd := hms.kept (w' := wd) (T := fun _ => False) (by rw [hwd]; exact (Chg.refl _ _).drew) HIN.out (fun _ _ x => x)
  refine wp_region_ord (S := fun w' => w'.cell? ⟨m, 8, none⟩ = some (.slice QA L qc)) (N := fun i => i != 13) (by kernel_rfl) [(0, true), (1, true), (2, true), (3, true), (4, true), (5, true), (6, true), (7, false), (8, false), (9, false), (10, true), (11, true), (12, true), (13, false)] (by kernel_rfl) ?_
  rw [← hwd]
  rw [← hwd] at CP
  have HGD := Lib.hid (HG0.out.trans hgd)
  have HMD := Lib.hid hmd
  clear hwd hmd hgd cq i0 i1 i2 hms
  iterate 7 (refine ord_look rfl hS rfl (by intro w hS; go_simp; with_reducible rfl) (fun c a w h => h) ?_; simp only [Act.put, List.setIfInBounds_toArray, List.set_cons_succ, List.set_cons_zero])
  refine ord_act rfl rfl (fun K hK => ?_)
  refine wp_call 60 _ _ Tryz.func60 rfl (by kernel_rfl) _ _ rfl #[.pointer (some ⟨F, 0, none⟩)] (by simp [Act.eval]) (R := fun v w' => v = .int .i64 y ∧ FIs w' Y F vars arrs s ∧ Chg (fun k => k = F) wd w') (calls_ret CP.out (by rintro e w' ⟨rfl, h1, h2⟩; exact ⟨_, rfl, rfl, h1, h2⟩)) ?_
  rintro v w1 ⟨rfl, hf, hc⟩
  have hYF : Y F := by obtain ⟨_, _, _, _, h, _⟩ := HMD.out.fi; exact h
  have hcY : Chg Y wd w1 := hc.mono (fun k _ e => by rw [e]; exact hYF)
  have hm1s := hmsd.kept hcY HIN.out (fun k hk => HMD.out.xy k hk)
  obtain ⟨Y1, hm1, hg1⟩ := HMD.out.frame (hf.mono (fun k hk _ => .inl hk)) hcY
  have hS1 : w1.cell? ⟨m, 8, none⟩ = some (.slice QA L qc) := hcY.cell hS (fun e => HMD.out.xy m HIN.out.m e)
  refine hK _ _ ⟨fun _ => hS1, ?_⟩
  clear hK K
  try simp only [Act.put, List.setIfInBounds_toArray, List.set_cons_succ, List.set_cons_zero]
  refine ord_act rfl rfl (fun K hK => ?_)
  go_simp
  obtain ⟨wx, hwx⟩ : ∃ wx, wx = w1.alloc (.cells #[.int .i64 y] 2) := ⟨_, rfl⟩
  obtain ⟨gg, hgg⟩ : ∃ gg, gg = w1.heap.size := ⟨_, rfl⟩
  have hcx : Chg (fun _ => False) w1 wx := by rw [hwx]; exact (Chg.refl _ _).alloc _
  have hszx : wx.heap.size = gg + 1 := by rw [hwx, hgg]; simp
  have hnews : ∀ (j : Nat) u, ([.int .i64 y] : List Value)[j]? = some u → wx.cell? ((⟨gg, 0, none⟩ : Addr).add j) = some u := World.news_of_block (cs := #[.int .i64 y]) (t := 2) (fr := (0, 0)) (by rw [hwx]; exact heap_new' hgg.symm)
  have hmxs := hm1s.kept hcx HIN.out (fun _ _ x => x)
  rw [← hwx, ← hgg]
  have hSx : wx.cell? ⟨m, 8, none⟩ = some (.slice QA L qc) := hcx.cell hS1 (fun x => x)
  refine hK _ _ ⟨fun _ => hSx, ?_⟩
  clear hK K hwx
  try simp only [Act.put, List.setIfInBounds_toArray, List.set_cons_succ, List.set_cons_zero]
  refine ord_act rfl rfl (fun K hK => ?_)
  have hrow := hmxs.ke
  rw [← HLL.out] at hrow
  refine wp_append_lies _ (.tmp 72) (.tmp 75) 25 rfl 0 2 i9 _ 1 8 Tryz.underlying25 hi9 hz0 hz1 hz2 rfl (by omega) (.slice QA L qc) L (nums g.ke) rfl hrow ⟨gg, 0, none⟩ 1 1 [.int .i64 y] rfl rfl hnews (by simp [Value.oneCell']) (by omega) (by unfold maxLen; omega) (by omega) (by omega) (gg + 1) hszx ?_
  intro q cap2 w2 hown2 hgrow2 hat2 hlt2
  have hc2 := Chg.of_grown hgrow2
  have hmne : ¬ (Value.slice QA L qc).ownBlock = some m := fun e => by
    have := hmxs.km.1
    rw [← HLL.out] at this
    exact this e
  have hb2 := hc2.heap hmxs.box hmne
  have hS2 : w2.cell? ⟨m, 8, none⟩ = some (.slice QA L qc) := hc2.cell hSx hmne
  refine hK _ _ ⟨fun _ => hS2, ?_⟩
  clear hK K
  try simp only [Act.put, List.setIfInBounds_toArray, List.set_cons_succ, List.set_cons_zero]
  clear hS
  have hS := hS2
  iterate 3 (refine ord_look rfl hS rfl (by intro w hS; go_simp; with_reducible rfl) (fun c a w h => h) ?_; simp only [Act.put, List.setIfInBounds_toArray, List.set_cons_succ, List.set_cons_zero])
  refine ord_act rfl rfl (fun K hK => ?_)
  have hfz := frozen_of_block hb2 8
  go_simp
  refine hK _ _ ⟨(fun h => by cases h), ?_⟩
  clear hK K
  try simp only [Act.put, List.setIfInBounds_toArray, List.set_cons_succ, List.set_cons_zero]
  refine ord_end ?_
  have hrr : w2.ownsRow 0 2 1 (.slice (some ⟨q, 0, none⟩) (L + 1) cap2) (L + 1) (nums (g.ke ++ [y])) := by rw [nums_snoc]; exact hown2
  have hms2 := hmxs.set8 (x := y) (q := q) (cap := cap2) (L := L + 1) (by rw [← HLL.out]; exact hc2) hrr (by rw [← HLL.out]) (by rw [← HLL.out]; rcases hat2 with h | h; exact .inl h; exact .inr (by omega))
  have hsx := Chg.set_cell (w := w2) ⟨m, 8, none⟩ (.slice (some ⟨q, 0, none⟩) (L + 1) cap2)
  have hcX : Chg X wx (w2.setCell ⟨m, 8, none⟩ (.slice (some ⟨q, 0, none⟩) (L + 1) cap2)) := (hc2.mono (fun k _ e => HIN.out.k k (by rw [← HLL.out]; exact e))).then (hsx.mono (fun k _ e => by have e : k = m := e; rw [e]; exact HIN.out.m))
  have hin2 : MIn (fun k => X k ∨ wx.heap.size ≤ k) m mt Sh P (.slice (some ⟨q, 0, none⟩) (L + 1) cap2) C := ⟨.inl HIN.out.m, .inl HIN.out.mt, fun k hk => .inl (HIN.out.sh k hk), fun k hk => .inl (HIN.out.p k hk), fun k hk => by
    have hk : some q = some k := hk
    injection hk with hk
    rw [← hk]
    rcases hat2 with h | h
    · exact .inl (HIN.out.k q (by rw [← HLL.out]; exact h))
    · exact .inr (by omega), fun k hk => .inl (HIN.out.c k hk)⟩
  have hmi : MIs W0 _ (fun k => X k ∨ wx.heap.size ≤ k) m V d { g with ke := g.ke ++ [y] } := ⟨mt, hp_, Sh, I0, I1, _, _, _, hms2, hin2⟩
  obtain ⟨hmx, hgx⟩ := hm1.still hcx
  obtain ⟨X', hm2, hg2⟩ := hmx.mach hmi hcX
  have HF := Lib.hid (And.intro hm2 (((HGD.out.trans hg1).trans hgx).trans hg2))
  clear hf hc hm1 hg1 CP hm1s hmxs hms2 hsx hcX hin2 hmi hmx hgx hm2 hg2 hrr hown2 hgrow2 hat2 hc2 hb2 hrow hcx hcY hmsd hnews hS1 hS2 hSx hfz hS
  go_wp2_with fail
  go_ret
  refine ⟨X', Y1, vars, arrs, s, rfl, ?_, HF.out.2, fun _ => ⟨rfl, rfl, ?_⟩⟩
  · have e : (doesv ⟨20, a, nn⟩ ⟨fn, at_, vars, arrs, s ++ [y]⟩ g).2.2 = { g with ke := g.ke ++ [y] } := by
      show { g with ke := g.ke ++ [top (s ++ [y])] } = _
      rw [top_snoc]
    rw [e]
    exact HF.out.1
  · show s = (s ++ [y]).dropLast
    simp
end Go.Proofs.YtahmnmpfjgddpaaGreatDoor
namespace Go.Proofs.YtahmnmpfjgddpaaGreatDoor
set_option linter.unusedVariables false
set_option linter.unusedSimpArgs false
open Go.RowKit

/-- what reckon answers -/
def RecP (W0 w : World) (X Y : Nat → Prop) (m : Nat) (V : Value) (d : Nat) (g : GS) (F : Nat) (vars arrs s : List Int) (r : Int × Bool) (e : Ending) (w' : World) : Prop :=
  ∃ Y' stack, e = .returned (.int .i64 (if r.2 = true then 0 else 7)) ∧ Ms W0 w' X Y' m V d g F vars arrs stack ∧ Gr w X Y w' X Y' ∧ (r.2 = true → stack = s ++ [r.1])
set_option maxHeartbeats 2000000 in
set_option maxRecDepth 100000 in
theorem reckon2 {W0 w : World} {X Y : Nat → Prop} {m : Nat} {V : Value} {d : Nat} {g : GS} {F : Nat} {vars arrs s : List Int} (x y : Int) (h : Ms W0 w X Y m V d g F vars arrs (s ++ [x] ++ [y])) (hs : SortsIs W0) (op : Int) (hop : 6 ≤ op ∧ op ≤ 14) (hl : s.length ≤ 1048576) :
    Calls Tryz.prog 78 #[.pointer (some ⟨F, 0, none⟩), .int .i64 op] w (RecP W0 w X Y m V d g F vars arrs s (doV (op + 2) x y)) := by
  have CT := Lib.hid (takes_any (hs.keep h.bel) op (by omega))
  have hT : takesv op = 2 := by
    have h : op = 6 ∨ op = 7 ∨ op = 8 ∨ op = 9 ∨ op = 10 ∨ op = 11 ∨ op = 12 ∨ op = 13 ∨ op = 14 := by omega
    rcases h with rfl | rfl | rfl | rfl | rfl | rfl | rfl | rfl | rfl <;> rfl
  rw [hT] at CT
  obtain ⟨r, hr⟩ : ∃ r, r = doV (op + 2) x y := ⟨_, rfl⟩
  have CD : Hid (∀ w, Calls Tryz.prog 83 #[.int .i64 (op + 2), .int .i64 x, .int .i64 y] w fun e w' => e = .returned (.tuple #[.int .i64 r.1, .bool r.2]) ∧ w' = w) := Lib.hid (fun w => by rw [hr]; exact doR_any (op + 2) x y (by omega) (by omega) w)
  rw [← hr]
  have HM := Lib.hid h
  clear h hs hT hr
  have e1 : wrap64 (wrap64 (op - 4) + 6) = op + 2 := by unfold wrap64; omega
  have e2 : op - 4 + 6 = op + 2 := by omega
  go_enter Tryz.func78, Tryz.ntmps78
  go_wp2_with fail
  refine CT.out.mono ?_; rintro e w1 ⟨rfl, hb1⟩
  obtain ⟨hm1, hg1⟩ := HM.out.still (Below.chg hb1)
  have HM1 := Lib.hid hm1
  have HG1 := Lib.hid hg1
  clear hm1 hg1 hb1
  have C1 := Lib.hid (pop_any HM1.out.fi (by simp; omega))
  go_wp2_with fail
  refine C1.out.mono ?_; rintro e w2 ⟨rfl, hf2, hc2⟩
  have hYF : Y F := by obtain ⟨_, _, _, _, h, _⟩ := HM1.out.fi; exact h
  obtain ⟨Y2, hm2, hg2⟩ := HM1.out.frame (hf2.mono (fun k hk _ => .inl hk)) (hc2.mono (fun k _ e => by rw [e]; exact hYF))
  have HM2 := Lib.hid hm2
  have HG2 := Lib.hid (HG1.out.trans hg2)
  clear hf2 hc2 hm2 hg2 C1
  have C2 := Lib.hid (pop_any HM2.out.fi (by omega))
  go_wp2_with fail
  refine C2.out.mono ?_; rintro e w3 ⟨rfl, hf3, hc3⟩
  have hYF3 : Y2 F := by obtain ⟨_, _, _, _, h, _⟩ := HM2.out.fi; exact h
  obtain ⟨Y3, hm3, hg3⟩ := HM2.out.frame (hf3.mono (fun k hk _ => .inl hk)) (hc3.mono (fun k _ e => by rw [e]; exact hYF3))
  have HM3 := Lib.hid hm3
  have HG3 := Lib.hid (HG2.out.trans hg3)
  clear hf3 hc3 hm3 hg3 C2
  go_wp2_with fail
  try rw [e2]
  refine (CD.out _).mono ?_; rintro e w4 ⟨rfl, rfl⟩
  obtain ⟨r1, r2⟩ := r
  simp only at CD ⊢
  cases r2 with
  | false =>
    go_wp2_with fail
    go_ret
    exact ⟨Y3, s, rfl, HM3.out, HG3.out, (fun h => by cases h)⟩
  | true =>
    have C4 := Lib.hid (push_any r1 HM3.out.fi (by omega))
    go_wp2_with fail
    refine C4.out.mono ?_; rintro e w5 ⟨rfl, hf5, hc5⟩
    obtain ⟨Y5, hm5, hg5⟩ := HM3.out.frame hf5 hc5
    have HF := Lib.hid (And.intro hm5 (HG3.out.trans hg5))
    clear hf5 hc5 hm5 hg5 C4
    go_wp2_with fail
    go_ret
    exact ⟨Y5, _, rfl, HF.out.1, HF.out.2, fun _ => rfl⟩
set_option maxHeartbeats 2000000 in
set_option maxRecDepth 100000 in
theorem reckon1 {W0 w : World} {X Y : Nat → Prop} {m : Nat} {V : Value} {d : Nat} {g : GS} {F : Nat} {vars arrs s : List Int} (x : Int) (h : Ms W0 w X Y m V d g F vars arrs (s ++ [x])) (hs : SortsIs W0) (op : Int) (hop : op = 4 ∨ op = 5) (hl : s.length ≤ 1048576) :
    Calls Tryz.prog 78 #[.pointer (some ⟨F, 0, none⟩), .int .i64 op] w (RecP W0 w X Y m V d g F vars arrs s (doV (op + 2) x 0)) := by
  have CT := Lib.hid (takes_any (hs.keep h.bel) op (by omega))
  have hT : takesv op = 1 := by
    rcases hop with rfl | rfl <;> rfl
  rw [hT] at CT
  obtain ⟨r, hr⟩ : ∃ r, r = doV (op + 2) x 0 := ⟨_, rfl⟩
  have CD : Hid (∀ w, Calls Tryz.prog 83 #[.int .i64 (op + 2), .int .i64 x, .int .i64 0] w fun e w' => e = .returned (.tuple #[.int .i64 r.1, .bool r.2]) ∧ w' = w) := Lib.hid (fun w => by rw [hr]; exact doR_any (op + 2) x 0 (by omega) (by omega) w)
  rw [← hr]
  have HM := Lib.hid h
  clear h hs hT hr
  have e1 : wrap64 (wrap64 (op - 4) + 6) = op + 2 := by unfold wrap64; omega
  have e2 : op - 4 + 6 = op + 2 := by omega
  go_enter Tryz.func78, Tryz.ntmps78
  go_wp2_with fail
  refine CT.out.mono ?_; rintro e w1 ⟨rfl, hb1⟩
  obtain ⟨hm1, hg1⟩ := HM.out.still (Below.chg hb1)
  have HM1 := Lib.hid hm1
  have HG1 := Lib.hid hg1
  clear hm1 hg1 hb1
  have C2 := Lib.hid (pop_any HM1.out.fi (by omega))
  go_wp2_with fail
  refine C2.out.mono ?_; rintro e w3 ⟨rfl, hf3, hc3⟩
  have hYF3 : Y F := by obtain ⟨_, _, _, _, h, _⟩ := HM1.out.fi; exact h
  obtain ⟨Y3, hm3, hg3⟩ := HM1.out.frame (hf3.mono (fun k hk _ => .inl hk)) (hc3.mono (fun k _ e => by rw [e]; exact hYF3))
  have HM3 := Lib.hid hm3
  have HG3 := Lib.hid (HG1.out.trans hg3)
  clear hf3 hc3 hm3 hg3 C2
  go_wp2_with fail
  try rw [e2]
  refine (CD.out _).mono ?_; rintro e w4 ⟨rfl, rfl⟩
  obtain ⟨r1, r2⟩ := r
  simp only at CD ⊢
  cases r2 with
  | false =>
    go_wp2_with fail
    go_ret
    exact ⟨Y3, s, rfl, HM3.out, HG3.out, (fun h => by cases h)⟩
  | true =>
    have C4 := Lib.hid (push_any r1 HM3.out.fi (by omega))
    go_wp2_with fail
    refine C4.out.mono ?_; rintro e w5 ⟨rfl, hf5, hc5⟩
    obtain ⟨Y5, hm5, hg5⟩ := HM3.out.frame hf5 hc5
    have HF := Lib.hid (And.intro hm5 (HG3.out.trans hg5))
    clear hf5 hc5 hm5 hg5 C4
    go_wp2_with fail
    go_ret
    exact ⟨Y5, _, rfl, HF.out.1, HF.out.2, fun _ => rfl⟩
set_option maxHeartbeats 4000000 in
set_option maxRecDepth 100000 in
theorem does_input0 {W0 w : World} {X Y : Nat → Prop} {m : Nat} {V : Value} {d : Nat} {g : GS} {F : Nat} {f : Fr} (h : Ms W0 w X Y m V d g F f.vars f.arrs f.stack) (j : Nat) (hj : j < f.vars.length) (hv : f.vars.length ≤ 1048576) :
    Calls Tryz.prog 61 #[.pointer (some ⟨m, 0, none⟩), .pointer (some ⟨F, 0, none⟩), .agg #[.int .i64 21, .int .i64 (j : Int), .int .i64 0]] w (DoesP W0 w X Y m V d F ⟨21, (j : Int), 0⟩ f g) := by
  obtain ⟨fn, at_, vars, arrs, stack⟩ := f
  simp only at h hj hv
  obtain ⟨w0, hw0⟩ : ∃ w0, w0 = w.alloc (.cells #[.int .i64 21, .int .i64 (j : Int), .int .i64 0] 42) := ⟨_, rfl⟩
  obtain ⟨P0, hP0⟩ : ∃ P0, P0 = w.heap.size := ⟨_, rfl⟩
  have hc0 : Chg (fun _ => False) w w0 := by rw [hw0]; exact (Chg.refl _ _).alloc _
  have hi0 : w0.heap[P0]? = some (.cells #[.int .i64 21, .int .i64 (j : Int), .int .i64 0] 42 (0, 0)) := by rw [hw0]; exact heap_new' hP0.symm
  obtain ⟨hm0, hg0⟩ := h.still hc0
  have HM0 := Lib.hid hm0
  have HG0 := Lib.hid hg0
  have HI0 := Lib.hid hi0
  have HWE := Lib.hid (And.intro hw0 hP0)
  have HPN : Hid (¬ X P0 ∧ ¬ Y P0) := Lib.hid ⟨fun e => by have := (h.lx _ e).2; omega, fun e => by have := (h.ly _ e).2; omega⟩
  have i0 := cell_of_block hi0 0
  have i1 := cell_of_block hi0 1
  have i2 := cell_of_block hi0 2
  simp at i0 i1 i2
  obtain ⟨VA, VB, VC, hs, hY1, hY2, hY3, hY4⟩ := hm0.fi
  obtain ⟨_, A, c, rfl⟩ := ownsRow_slice hs.va
  obtain ⟨b, rfl, hb, hcap, hfz, hcell⟩ := ownsRow_cell hs.va j hj
  have hx := hcell _ (nums_get vars j hj)
  have c0 := cell_of_block hs.box 0
  simp at c0
  obtain ⟨x, hxe⟩ : ∃ x, x = vars[j] := ⟨_, rfl⟩
  rw [← hxe] at hx
  obtain ⟨n, hn⟩ : ∃ n, n = vars.length := ⟨_, rfl⟩
  have hjn : j < n := by omega
  rw [← hn] at c0 hcap
  have HN := Lib.hid hn
  have HXE := Lib.hid hxe
  have HS := Lib.hid hs
  have HY := Lib.hid (And.intro hY1 (And.intro hY2 (And.intro hY3 hY4)))
  have hnb : n ≤ 1048576 := by omega
  clear hxe hn
  obtain ⟨mt, hp_, Sh, I0, I1, P, KV, CV, hms, hin⟩ := hm0.mi
  have cq := cell_of_block hms.box 3
  have fq := frozen_of_block hms.box 3
  simp at cq
  have HIN := Lib.hid hin
  have hnsw := hms.i0
  have CN := Lib.hid (next_any (w := w0.drew) (m := m) (o := 3) (V := I0) (l := g.i0) cq fq ((hms.i0.keep hm0.bel).keep (Below.refl _ _).drew))
  clear h hw0 hP0 hc0 hi0 hm0 hg0
  go_enter Tryz.func61, Tryz.ntmps61
  go_upto_region 1 with fail
  rw [← HWE.out.1, ← HWE.out.2]
  go_upto_region 19 with fail
  obtain ⟨wd, hwd⟩ : ∃ wd, wd = w0.drew := ⟨_, rfl⟩
  have hS : wd.cell? ⟨F, 0, none⟩ = some (.slice (some ⟨b, 0, none⟩) n c) ∧ wd.cell? ⟨P0, 1, none⟩ = some (.int .i64 (j : Int)) := by rw [hwd]; exact ⟨c0, i1⟩
  obtain ⟨hmd, hgd⟩ := HM0.out.still (w' := wd) (by rw [hwd]; exact (Chg.refl _ _).drew)
  have hmsd := hms.kept (w' := wd) (T := fun _ => False) (by rw [hwd]; exact (Chg.refl _ _).drew) HIN.out (fun _ _ x => x)
  have hsd := hs.kept (w' := wd) (T := fun _ => False) (by rw [hwd]; exact (Chg.refl _ _).drew) (fun x => x) (fun _ _ x => x) (fun _ _ x => x) (fun _ _ x => x)
  refine wp_region_ord (S := fun w' => w'.cell? ⟨F, 0, none⟩ = some (.slice (some ⟨b, 0, none⟩) n c) ∧ w'.cell? ⟨P0, 1, none⟩ = some (.int .i64 (j : Int))) (N := fun i => i != 9) (by kernel_rfl) [(0, true), (1, true), (2, true), (3, true), (4, true), (5, true), (6, true), (7, false), (8, true), (9, false)] (by kernel_rfl) ?_
  rw [← hwd]
  rw [← hwd] at CN
  have HGD := Lib.hid (HG0.out.trans hgd)
  have HMD := Lib.hid hmd
  have HSS := Lib.hid hS
  clear hwd hmd hgd c0 hx i0 i1 i2 cq fq hms hs
  iterate 7 (refine ord_look rfl hS rfl (by intro w hS; obtain ⟨p0, p1⟩ := hS; go_simp; with_reducible rfl) (fun c a w h => h) ?_; simp only [Act.put, List.setIfInBounds_toArray, List.set_cons_succ, List.set_cons_zero])
  obtain ⟨y, hy⟩ : ∃ y, y = g.i0.headD 0 := ⟨_, rfl⟩
  have HYV := Lib.hid hy
  clear hy
  refine ord_act rfl rfl (fun K hK => ?_)
  refine wp_call 76 _ _ Tryz.func76 rfl (by kernel_rfl) _ _ rfl #[.pointer (some ⟨m, 3, none⟩)] (by simp [Act.eval]) (R := fun v w' => v = .int .i64 y ∧ NextP wd m 3 I0 g.i0 (.returned v) w') (calls_ret CN.out (by intro e w' h; have h1 := h.1; subst h1; exact ⟨_, rfl, by rw [HYV.out], h⟩)) ?_
  rintro v w1 ⟨rfl, hnx⟩
  have hne : ¬ m = F := fun e => HMD.out.xy m HIN.out.m (by rw [e]; exact HY.out.1)
  obtain ⟨I', hm1s, hc1⟩ : ∃ I', MSt W0 w1 m mt hp_ Sh V I' I1 P KV CV d { g with i0 := g.i0.tail } ∧ Chg (fun k => k = m) wd w1 := by
    rcases hnx.2 with ⟨e1, rfl⟩ | ⟨V', rfl, hV⟩
    · refine ⟨I0, ?_, Chg.refl _ _⟩
      have e : ({ g with i0 := g.i0.tail } : GS) = g := by obtain ⟨a1, a2, a3, a4, a5, a6, a7, a8, a9⟩ := g; simp only at e1; subst e1; rfl
      rw [e]; exact hmsd
    · exact ⟨V', hmsd.set3 V' _ (hV W0 hnsw), Chg.set_cell ⟨m, 3, none⟩ V'⟩
  have hs1 := hsd.kept hc1 (fun e => hne e.symm) (fun k hk e => HMD.out.xy m HIN.out.m (by rw [← e]; exact HY.out.2.1 k hk)) (fun k hk e => HMD.out.xy m HIN.out.m (by rw [← e]; exact HY.out.2.2.1 k hk)) (fun k hk e => HMD.out.xy m HIN.out.m (by rw [← e]; exact HY.out.2.2.2 k hk))
  have hmi1 : MIs W0 w1 (fun k => X k ∨ wd.heap.size ≤ k) m V d { g with i0 := g.i0.tail } := ⟨mt, hp_, Sh, _, _, P, KV, CV, hm1s, ⟨.inl HIN.out.m, .inl HIN.out.mt, fun k hk => .inl (HIN.out.sh k hk), fun k hk => .inl (HIN.out.p k hk), fun k hk => .inl (HIN.out.k k hk), fun k hk => .inl (HIN.out.c k hk)⟩⟩
  obtain ⟨X1, hm1, hg1⟩ := HMD.out.mach hmi1 (hc1.mono (fun k _ e => by rw [e]; exact HIN.out.m))
  have hS1 : w1.cell? ⟨F, 0, none⟩ = some (.slice (some ⟨b, 0, none⟩) n c) ∧ w1.cell? ⟨P0, 1, none⟩ = some (.int .i64 (j : Int)) := ⟨hc1.cell HSS.out.1 (fun e => hne e.symm), hc1.cell HSS.out.2 (fun e => HPN.out.1 (by have e : P0 = m := e; rw [e]; exact HIN.out.m))⟩
  refine hK _ _ ⟨fun _ => hS1, ?_⟩
  clear hK K hS
  have hS := hS1
  try simp only [Act.put, List.setIfInBounds_toArray, List.set_cons_succ, List.set_cons_zero]
  iterate 1 (refine ord_look rfl hS rfl (by intro w hS; obtain ⟨p0, p1⟩ := hS; go_simp; with_reducible rfl) (fun c a w h => h) ?_; simp only [Act.put, List.setIfInBounds_toArray, List.set_cons_succ, List.set_cons_zero])
  refine ord_act rfl rfl (fun K hK => ?_)
  obtain ⟨b', e1, _, _, hfz1, hcell1⟩ := ownsRow_cell hs1.va j (by rw [← HN.out]; exact hjn)
  have e1 : b' = b := by injection e1 with e1; injection e1 with e1 _; exact e1.symm
  subst e1
  have hxc := hcell1 _ (nums_get vars j (by rw [← HN.out]; exact hjn))
  go_simp
  refine hK _ _ ⟨(fun h => by cases h), ?_⟩
  clear hK K
  try simp only [Act.put, List.setIfInBounds_toArray, List.set_cons_succ, List.set_cons_zero]
  refine ord_end ?_
  have hf2 := hs1.setvar j (by rw [← HN.out]; exact hjn) y
  have hc2 := Chg.set_cell (w := w1) ⟨b', j, none⟩ (.int .i64 y)
  have hfi : FIs (w1.setCell ⟨b', j, none⟩ (.int .i64 y)) (fun k => Y k ∨ w1.heap.size ≤ k) F (vars.set j y) arrs stack := ⟨_, _, _, hf2, .inl HY.out.1, fun k hk => .inl (HY.out.2.1 k hk), fun k hk => .inl (HY.out.2.2.1 k hk), fun k hk => .inl (HY.out.2.2.2 k hk)⟩
  obtain ⟨Y', hm2, hg2⟩ := hm1.frame hfi (hc2.mono (fun k _ e => HY.out.2.1 k (by have e : k = b' := e; rw [e]; rfl)))
  have HF := Lib.hid (And.intro hm2 ((HGD.out.trans hg1).trans hg2))
  clear hm1 hg1 hS CN hfi hf2 hc2 hxc hfz1 hcell1 hS1 hnx hm1s hc1 hs1 hmi1 hm2 hg2 hmsd hsd hnsw
  go_wp2_with fail
  go_ret
  refine ⟨X1, Y', _, _, _, rfl, HF.out.1, HF.out.2, fun _ => ⟨?_, rfl, rfl⟩⟩
  show vars.set j y = vars.set ((j : Int)).toNat (g.i0.headD 0)
  rw [show ((j : Int)).toNat = j by omega, HYV.out]
set_option maxHeartbeats 4000000 in
set_option maxRecDepth 100000 in
theorem does_input1 {W0 w : World} {X Y : Nat → Prop} {m : Nat} {V : Value} {d : Nat} {g : GS} {F : Nat} {f : Fr} (h : Ms W0 w X Y m V d g F f.vars f.arrs f.stack) (j : Nat) (hj : j < f.vars.length) (hv : f.vars.length ≤ 1048576) :
    Calls Tryz.prog 61 #[.pointer (some ⟨m, 0, none⟩), .pointer (some ⟨F, 0, none⟩), .agg #[.int .i64 21, .int .i64 (j : Int), .int .i64 1]] w (DoesP W0 w X Y m V d F ⟨21, (j : Int), 1⟩ f g) := by
  obtain ⟨fn, at_, vars, arrs, stack⟩ := f
  simp only at h hj hv
  obtain ⟨w0, hw0⟩ : ∃ w0, w0 = w.alloc (.cells #[.int .i64 21, .int .i64 (j : Int), .int .i64 1] 42) := ⟨_, rfl⟩
  obtain ⟨P0, hP0⟩ : ∃ P0, P0 = w.heap.size := ⟨_, rfl⟩
  have hc0 : Chg (fun _ => False) w w0 := by rw [hw0]; exact (Chg.refl _ _).alloc _
  have hi0 : w0.heap[P0]? = some (.cells #[.int .i64 21, .int .i64 (j : Int), .int .i64 1] 42 (0, 0)) := by rw [hw0]; exact heap_new' hP0.symm
  obtain ⟨hm0, hg0⟩ := h.still hc0
  have HM0 := Lib.hid hm0
  have HG0 := Lib.hid hg0
  have HI0 := Lib.hid hi0
  have HWE := Lib.hid (And.intro hw0 hP0)
  have HPN : Hid (¬ X P0 ∧ ¬ Y P0) := Lib.hid ⟨fun e => by have := (h.lx _ e).2; omega, fun e => by have := (h.ly _ e).2; omega⟩
  have i0 := cell_of_block hi0 0
  have i1 := cell_of_block hi0 1
  have i2 := cell_of_block hi0 2
  simp at i0 i1 i2
  obtain ⟨VA, VB, VC, hs, hY1, hY2, hY3, hY4⟩ := hm0.fi
  obtain ⟨_, A, c, rfl⟩ := ownsRow_slice hs.va
  obtain ⟨b, rfl, hb, hcap, hfz, hcell⟩ := ownsRow_cell hs.va j hj
  have hx := hcell _ (nums_get vars j hj)
  have c0 := cell_of_block hs.box 0
  simp at c0
  obtain ⟨x, hxe⟩ : ∃ x, x = vars[j] := ⟨_, rfl⟩
  rw [← hxe] at hx
  obtain ⟨n, hn⟩ : ∃ n, n = vars.length := ⟨_, rfl⟩
  have hjn : j < n := by omega
  rw [← hn] at c0 hcap
  have HN := Lib.hid hn
  have HXE := Lib.hid hxe
  have HS := Lib.hid hs
  have HY := Lib.hid (And.intro hY1 (And.intro hY2 (And.intro hY3 hY4)))
  have hnb : n ≤ 1048576 := by omega
  clear hxe hn
  obtain ⟨mt, hp_, Sh, I0, I1, P, KV, CV, hms, hin⟩ := hm0.mi
  have cq := cell_of_block hms.box 4
  have fq := frozen_of_block hms.box 4
  simp at cq
  have HIN := Lib.hid hin
  have hnsw := hms.i1
  have CN := Lib.hid (next_any (w := w0.drew) (m := m) (o := 4) (V := I1) (l := g.i1) cq fq ((hms.i1.keep hm0.bel).keep (Below.refl _ _).drew))
  clear h hw0 hP0 hc0 hi0 hm0 hg0
  go_enter Tryz.func61, Tryz.ntmps61
  go_upto_region 1 with fail
  rw [← HWE.out.1, ← HWE.out.2]
  go_upto_region 19 with fail
  obtain ⟨wd, hwd⟩ : ∃ wd, wd = w0.drew := ⟨_, rfl⟩
  have hS : wd.cell? ⟨F, 0, none⟩ = some (.slice (some ⟨b, 0, none⟩) n c) ∧ wd.cell? ⟨P0, 1, none⟩ = some (.int .i64 (j : Int)) := by rw [hwd]; exact ⟨c0, i1⟩
  obtain ⟨hmd, hgd⟩ := HM0.out.still (w' := wd) (by rw [hwd]; exact (Chg.refl _ _).drew)
  have hmsd := hms.kept (w' := wd) (T := fun _ => False) (by rw [hwd]; exact (Chg.refl _ _).drew) HIN.out (fun _ _ x => x)
  have hsd := hs.kept (w' := wd) (T := fun _ => False) (by rw [hwd]; exact (Chg.refl _ _).drew) (fun x => x) (fun _ _ x => x) (fun _ _ x => x) (fun _ _ x => x)
  refine wp_region_ord (S := fun w' => w'.cell? ⟨F, 0, none⟩ = some (.slice (some ⟨b, 0, none⟩) n c) ∧ w'.cell? ⟨P0, 1, none⟩ = some (.int .i64 (j : Int))) (N := fun i => i != 9) (by kernel_rfl) [(0, true), (1, true), (2, true), (3, true), (4, true), (5, true), (6, true), (7, false), (8, true), (9, false)] (by kernel_rfl) ?_
  rw [← hwd]
  rw [← hwd] at CN
  have HGD := Lib.hid (HG0.out.trans hgd)
  have HMD := Lib.hid hmd
  have HSS := Lib.hid hS
  clear hwd hmd hgd c0 hx i0 i1 i2 cq fq hms hs
  iterate 7 (refine ord_look rfl hS rfl (by intro w hS; obtain ⟨p0, p1⟩ := hS; go_simp; with_reducible rfl) (fun c a w h => h) ?_; simp only [Act.put, List.setIfInBounds_toArray, List.set_cons_succ, List.set_cons_zero])
  obtain ⟨y, hy⟩ : ∃ y, y = g.i1.headD 0 := ⟨_, rfl⟩
  have HYV := Lib.hid hy
  clear hy
  refine ord_act rfl rfl (fun K hK => ?_)
  refine wp_call 76 _ _ Tryz.func76 rfl (by kernel_rfl) _ _ rfl #[.pointer (some ⟨m, 4, none⟩)] (by simp [Act.eval]) (R := fun v w' => v = .int .i64 y ∧ NextP wd m 4 I1 g.i1 (.returned v) w') (calls_ret CN.out (by intro e w' h; have h1 := h.1; subst h1; exact ⟨_, rfl, by rw [HYV.out], h⟩)) ?_
  rintro v w1 ⟨rfl, hnx⟩
  have hne : ¬ m = F := fun e => HMD.out.xy m HIN.out.m (by rw [e]; exact HY.out.1)
  obtain ⟨I', hm1s, hc1⟩ : ∃ I', MSt W0 w1 m mt hp_ Sh V I0 I' P KV CV d { g with i1 := g.i1.tail } ∧ Chg (fun k => k = m) wd w1 := by
    rcases hnx.2 with ⟨e1, rfl⟩ | ⟨V', rfl, hV⟩
    · refine ⟨I1, ?_, Chg.refl _ _⟩
      have e : ({ g with i1 := g.i1.tail } : GS) = g := by obtain ⟨a1, a2, a3, a4, a5, a6, a7, a8, a9⟩ := g; simp only at e1; subst e1; rfl
      rw [e]; exact hmsd
    · exact ⟨V', hmsd.set4 V' _ (hV W0 hnsw), Chg.set_cell ⟨m, 4, none⟩ V'⟩
  have hs1 := hsd.kept hc1 (fun e => hne e.symm) (fun k hk e => HMD.out.xy m HIN.out.m (by rw [← e]; exact HY.out.2.1 k hk)) (fun k hk e => HMD.out.xy m HIN.out.m (by rw [← e]; exact HY.out.2.2.1 k hk)) (fun k hk e => HMD.out.xy m HIN.out.m (by rw [← e]; exact HY.out.2.2.2 k hk))
  have hmi1 : MIs W0 w1 (fun k => X k ∨ wd.heap.size ≤ k) m V d { g with i1 := g.i1.tail } := ⟨mt, hp_, Sh, _, _, P, KV, CV, hm1s, ⟨.inl HIN.out.m, .inl HIN.out.mt, fun k hk => .inl (HIN.out.sh k hk), fun k hk => .inl (HIN.out.p k hk), fun k hk => .inl (HIN.out.k k hk), fun k hk => .inl (HIN.out.c k hk)⟩⟩
  obtain ⟨X1, hm1, hg1⟩ := HMD.out.mach hmi1 (hc1.mono (fun k _ e => by rw [e]; exact HIN.out.m))
  have hS1 : w1.cell? ⟨F, 0, none⟩ = some (.slice (some ⟨b, 0, none⟩) n c) ∧ w1.cell? ⟨P0, 1, none⟩ = some (.int .i64 (j : Int)) := ⟨hc1.cell HSS.out.1 (fun e => hne e.symm), hc1.cell HSS.out.2 (fun e => HPN.out.1 (by have e : P0 = m := e; rw [e]; exact HIN.out.m))⟩
  refine hK _ _ ⟨fun _ => hS1, ?_⟩
  clear hK K hS
  have hS := hS1
  try simp only [Act.put, List.setIfInBounds_toArray, List.set_cons_succ, List.set_cons_zero]
  iterate 1 (refine ord_look rfl hS rfl (by intro w hS; obtain ⟨p0, p1⟩ := hS; go_simp; with_reducible rfl) (fun c a w h => h) ?_; simp only [Act.put, List.setIfInBounds_toArray, List.set_cons_succ, List.set_cons_zero])
  refine ord_act rfl rfl (fun K hK => ?_)
  obtain ⟨b', e1, _, _, hfz1, hcell1⟩ := ownsRow_cell hs1.va j (by rw [← HN.out]; exact hjn)
  have e1 : b' = b := by injection e1 with e1; injection e1 with e1 _; exact e1.symm
  subst e1
  have hxc := hcell1 _ (nums_get vars j (by rw [← HN.out]; exact hjn))
  go_simp
  refine hK _ _ ⟨(fun h => by cases h), ?_⟩
  clear hK K
  try simp only [Act.put, List.setIfInBounds_toArray, List.set_cons_succ, List.set_cons_zero]
  refine ord_end ?_
  have hf2 := hs1.setvar j (by rw [← HN.out]; exact hjn) y
  have hc2 := Chg.set_cell (w := w1) ⟨b', j, none⟩ (.int .i64 y)
  have hfi : FIs (w1.setCell ⟨b', j, none⟩ (.int .i64 y)) (fun k => Y k ∨ w1.heap.size ≤ k) F (vars.set j y) arrs stack := ⟨_, _, _, hf2, .inl HY.out.1, fun k hk => .inl (HY.out.2.1 k hk), fun k hk => .inl (HY.out.2.2.1 k hk), fun k hk => .inl (HY.out.2.2.2 k hk)⟩
  obtain ⟨Y', hm2, hg2⟩ := hm1.frame hfi (hc2.mono (fun k _ e => HY.out.2.1 k (by have e : k = b' := e; rw [e]; rfl)))
  have HF := Lib.hid (And.intro hm2 ((HGD.out.trans hg1).trans hg2))
  clear hm1 hg1 hS CN hfi hf2 hc2 hxc hfz1 hcell1 hS1 hnx hm1s hc1 hs1 hmi1 hm2 hg2 hmsd hsd hnsw
  go_wp2_with fail
  go_ret
  refine ⟨X1, Y', _, _, _, rfl, HF.out.1, HF.out.2, fun _ => ⟨?_, rfl, rfl⟩⟩
  show vars.set j y = vars.set ((j : Int)).toNat (g.i1.headD 0)
  rw [show ((j : Int)).toNat = j by omega, HYV.out]
set_option maxHeartbeats 4000000 in
set_option maxRecDepth 100000 in
theorem does_clock {W0 w : World} {X Y : Nat → Prop} {m : Nat} {V : Value} {d : Nat} {g : GS} {F : Nat} {f : Fr} (h : Ms W0 w X Y m V d g F f.vars f.arrs f.stack) (a nn : Int) (hp : g.cl.length ≤ 1099511627776) (hl : f.stack.length ≤ 1099511627776) :
    Calls Tryz.prog 61 #[.pointer (some ⟨m, 0, none⟩), .pointer (some ⟨F, 0, none⟩), .agg #[.int .i64 25, .int .i64 a, .int .i64 nn]] w (DoesP W0 w X Y m V d F ⟨25, a, nn⟩ f g) := by
  obtain ⟨fn, at_, vars, arrs, stack⟩ := f
  simp only at h hp hl
  obtain ⟨w0, hw0⟩ : ∃ w0, w0 = w.alloc (.cells #[.int .i64 25, .int .i64 a, .int .i64 nn] 42) := ⟨_, rfl⟩
  obtain ⟨P0, hP0⟩ : ∃ P0, P0 = w.heap.size := ⟨_, rfl⟩
  have hc0 : Chg (fun _ => False) w w0 := by rw [hw0]; exact (Chg.refl _ _).alloc _
  have hi0 : w0.heap[P0]? = some (.cells #[.int .i64 25, .int .i64 a, .int .i64 nn] 42 (0, 0)) := by rw [hw0]; exact heap_new' hP0.symm
  obtain ⟨hm0, hg0⟩ := h.still hc0
  have HM0 := Lib.hid hm0
  have HG0 := Lib.hid hg0
  have HI0 := Lib.hid hi0
  have HWE := Lib.hid (And.intro hw0 hP0)
  have HPN : Hid (¬ X P0 ∧ ¬ Y P0) := Lib.hid ⟨fun e => by have := (h.lx _ e).2; omega, fun e => by have := (h.ly _ e).2; omega⟩
  have i0 := cell_of_block hi0 0
  have i1 := cell_of_block hi0 1
  have i2 := cell_of_block hi0 2
  simp at i0 i1 i2
  have hmi0 := hm0.mi
  obtain ⟨mt, hp_, Sh, I0, I1, P, KV, CV, hms, hin⟩ := hmi0
  have b0 := cell_of_block hms.box 0
  simp at b0
  have CN := Lib.hid (now_any hms.met)
  have CP := Lib.hid (push_any g.now hm0.fi hl)
  have HIN := Lib.hid hin
  have HMS := Lib.hid hms
  obtain ⟨i9, hi9, hz0, hz1, hz2⟩ := info_parts infoL
  clear hms hin
  clear h hw0 hP0 hc0 hi0 hm0 hg0
  go_enter Tryz.func61, Tryz.ntmps61
  go_upto_region 1 with fail
  rw [← HWE.out.1, ← HWE.out.2]
  go_wp2_with fail
  refine CN.out.mono ?_; rintro e wn ⟨rfl, rfl⟩
  go_wp2_with fail
  refine CP.out.mono ?_; rintro e w1 ⟨rfl, hf, hc⟩
  have hm1s := HMS.out.kept hc HIN.out (fun k hk => HM0.out.xy k hk)
  obtain ⟨Y1, hm1, hg1⟩ := HM0.out.frame hf hc
  obtain ⟨_, QA, qc, rfl⟩ := ownsRow_slice hm1s.cl
  have cq := cell_of_block hm1s.box 9
  have cm0 := cell_of_block hm1s.box 0
  simp at cq cm0
  obtain ⟨L, hL⟩ : ∃ L, L = g.cl.length := ⟨_, rfl⟩
  rw [← hL] at cq hp
  have HLL := Lib.hid hL
  have HM1 := Lib.hid hm1
  have HG1 := Lib.hid (HG0.out.trans hg1)
  clear hL hf hc hm1 hg1 CP CN b0 i0 i1 i2
  go_upto_region 22 with fail
  obtain ⟨wd, hwd⟩ : ∃ wd, wd = w1.drew := ⟨_, rfl⟩
  have hS : wd.cell? ⟨m, 9, none⟩ = some (.slice QA L qc) ∧ wd.cell? ⟨m, 0, none⟩ = some (.pointer (some ⟨mt, 0, none⟩)) := by rw [hwd]; exact ⟨cq, cm0⟩
  obtain ⟨hmd, hgd⟩ := HM1.out.still (w' := wd) (by rw [hwd]; exact (Chg.refl _ _).drew)
  have hmsd := hm1s.kept (w' := wd) (T := fun _ => False) (by rw [hwd]; exact (Chg.refl _ _).drew) HIN.out (fun _ _ x => x)
  refine wp_region_ord (S := fun w' => w'.cell? ⟨m, 9, none⟩ = some (.slice QA L qc) ∧ w'.cell? ⟨m, 0, none⟩ = some (.pointer (some ⟨mt, 0, none⟩))) (N := fun i => i != 18) (by kernel_rfl) [(0, true), (1, true), (2, true), (3, true), (4, true), (5, true), (6, true), (7, true), (8, true), (9, true), (10, true), (11, true), (12, false), (13, false), (14, false), (15, true), (16, true), (17, true), (18, false)] (by kernel_rfl) ?_
  rw [← hwd]
  have HGD := Lib.hid (HG1.out.trans hgd)
  have HMD := Lib.hid hmd
  clear hwd hmd hgd cq cm0 hm1s
  iterate 12 (refine ord_look rfl hS rfl (by intro w hS; obtain ⟨p0, p1⟩ := hS; go_simp; with_reducible rfl) (fun c a w h => h) ?_; simp only [Act.put, List.setIfInBounds_toArray, List.set_cons_succ, List.set_cons_zero])
  refine ord_act rfl rfl (fun K hK => ?_)
  refine wp_call 24 _ _ Tryz.func24 rfl (by kernel_rfl) _ _ rfl #[.pointer (some ⟨mt, 0, none⟩)] (by simp [Act.eval]) (R := fun v w' => v = .int .i64 g.now ∧ wd = w') (calls_ret (now_any hmsd.met) (by rintro e w' ⟨rfl, h1⟩; exact ⟨_, rfl, rfl, h1⟩)) ?_
  rintro v w2 ⟨rfl, rfl⟩
  refine hK _ _ ⟨fun _ => hS, ?_⟩
  clear hK K
  try simp only [Act.put, List.setIfInBounds_toArray, List.set_cons_succ, List.set_cons_zero]
  refine ord_act rfl rfl (fun K hK => ?_)
  go_simp
  obtain ⟨wx, hwx⟩ : ∃ wx, wx = wd.alloc (.cells #[.int .i64 g.now] 2) := ⟨_, rfl⟩
  obtain ⟨gg, hgg⟩ : ∃ gg, gg = wd.heap.size := ⟨_, rfl⟩
  have hcx : Chg (fun _ => False) wd wx := by rw [hwx]; exact (Chg.refl _ _).alloc _
  have hszx : wx.heap.size = gg + 1 := by rw [hwx, hgg]; simp
  have hnews : ∀ (j : Nat) u, ([.int .i64 g.now] : List Value)[j]? = some u → wx.cell? ((⟨gg, 0, none⟩ : Addr).add j) = some u := World.news_of_block (cs := #[.int .i64 g.now]) (t := 2) (fr := (0, 0)) (by rw [hwx]; exact heap_new' hgg.symm)
  have hmxs := hmsd.kept hcx HIN.out (fun _ _ x => x)
  rw [← hwx, ← hgg]
  have hSx : wx.cell? ⟨m, 9, none⟩ = some (.slice QA L qc) ∧ wx.cell? ⟨m, 0, none⟩ = some (.pointer (some ⟨mt, 0, none⟩)) := ⟨hcx.cell hS.1 (fun x => x), hcx.cell hS.2 (fun x => x)⟩
  refine hK _ _ ⟨fun _ => hSx, ?_⟩
  clear hK K hwx
  try simp only [Act.put, List.setIfInBounds_toArray, List.set_cons_succ, List.set_cons_zero]
  refine ord_act rfl rfl (fun K hK => ?_)
  have hrow := hmxs.cl
  rw [← HLL.out] at hrow
  refine wp_append_lies _ (.tmp 118) (.tmp 126) 25 rfl 0 2 i9 _ 1 8 Tryz.underlying25 hi9 hz0 hz1 hz2 rfl (by omega) (.slice QA L qc) L (nums g.cl) rfl hrow ⟨gg, 0, none⟩ 1 1 [.int .i64 g.now] rfl rfl hnews (by simp [Value.oneCell']) (by omega) (by unfold maxLen; omega) (by omega) (by omega) (gg + 1) hszx ?_
  intro q cap2 w2 hown2 hgrow2 hat2 hlt2
  have hc2 := Chg.of_grown hgrow2
  have hmne : ¬ (Value.slice QA L qc).ownBlock = some m := fun e => by
    have := hmxs.cm.1
    rw [← HLL.out] at this
    exact this e
  have hb2 := hc2.heap hmxs.box hmne
  have hS2 : w2.cell? ⟨m, 9, none⟩ = some (.slice QA L qc) ∧ w2.cell? ⟨m, 0, none⟩ = some (.pointer (some ⟨mt, 0, none⟩)) := ⟨hc2.cell hSx.1 hmne, hc2.cell hSx.2 hmne⟩
  refine hK _ _ ⟨fun _ => hS2, ?_⟩
  clear hK K
  try simp only [Act.put, List.setIfInBounds_toArray, List.set_cons_succ, List.set_cons_zero]
  clear hS
  have hS := hS2
  iterate 3 (refine ord_look rfl hS rfl (by intro w hS; obtain ⟨p0, p1⟩ := hS; go_simp; with_reducible rfl) (fun c a w h => h) ?_; simp only [Act.put, List.setIfInBounds_toArray, List.set_cons_succ, List.set_cons_zero])
  refine ord_act rfl rfl (fun K hK => ?_)
  have hfz := frozen_of_block hb2 9
  have hS21 := hS2.1
  go_simp
  refine hK _ _ ⟨(fun h => by cases h), ?_⟩
  clear hK K
  try simp only [Act.put, List.setIfInBounds_toArray, List.set_cons_succ, List.set_cons_zero]
  refine ord_end ?_
  have hrr : w2.ownsRow 0 2 1 (.slice (some ⟨q, 0, none⟩) (L + 1) cap2) (L + 1) (nums (g.cl ++ [g.now])) := by rw [nums_snoc]; exact hown2
  have hms2 := hmxs.set9 (x := g.now) (q := q) (cap := cap2) (L := L + 1) (by rw [← HLL.out]; exact hc2) hrr (by rw [← HLL.out]) (by rw [← HLL.out]; rcases hat2 with h | h; exact .inl h; exact .inr (by omega))
  have hsx := Chg.set_cell (w := w2) ⟨m, 9, none⟩ (.slice (some ⟨q, 0, none⟩) (L + 1) cap2)
  have hcX : Chg X wx (w2.setCell ⟨m, 9, none⟩ (.slice (some ⟨q, 0, none⟩) (L + 1) cap2)) := (hc2.mono (fun k _ e => HIN.out.c k (by rw [← HLL.out]; exact e))).then (hsx.mono (fun k _ e => by have e : k = m := e; rw [e]; exact HIN.out.m))
  have hin2 : MIn (fun k => X k ∨ wx.heap.size ≤ k) m mt Sh P KV (.slice (some ⟨q, 0, none⟩) (L + 1) cap2) := ⟨.inl HIN.out.m, .inl HIN.out.mt, fun k hk => .inl (HIN.out.sh k hk), fun k hk => .inl (HIN.out.p k hk), fun k hk => .inl (HIN.out.k k hk), fun k hk => by
    have hk : some q = some k := hk
    injection hk with hk
    rw [← hk]
    rcases hat2 with h | h
    · exact .inl (HIN.out.c q (by rw [← HLL.out]; exact h))
    · exact .inr (by omega)⟩
  have hmi : MIs W0 _ (fun k => X k ∨ wx.heap.size ≤ k) m V d { g with cl := g.cl ++ [g.now] } := ⟨mt, hp_, Sh, I0, I1, _, _, _, hms2, hin2⟩
  obtain ⟨hmx, hgx⟩ := HMD.out.still hcx
  obtain ⟨X', hm2, hg2⟩ := hmx.mach hmi hcX
  have HF := Lib.hid (And.intro hm2 ((HGD.out.trans hgx).trans hg2))
  clear hmxs hms2 hsx hcX hin2 hmi hmx hgx hm2 hg2 hrr hown2 hgrow2 hat2 hc2 hb2 hrow hcx hmsd hnews hS2 hSx hfz hS hS21
  go_wp2_with fail
  go_ret
  exact ⟨X', Y1, vars, arrs, _, rfl, HF.out.1, HF.out.2, fun _ => ⟨rfl, rfl, rfl⟩⟩
end Go.Proofs.YtahmnmpfjgddpaaGreatDoor
namespace Go.Proofs.YtahmnmpfjgddpaaGreatDoor
set_option linter.unusedVariables false
set_option linter.unusedSimpArgs false
open Go.RowKit

theorem setv_none {xss : List (List Int)} {id i : Int} (h : cellv xss id i = none) (v : Int) : setv xss id i v = xss := by
  unfold cellv at h
  unfold setv
  by_cases hc : 0 ≤ id ∧ 0 ≤ i
  · rw [if_pos hc] at h ⊢
    apply List.ext_getElem?
    intro k
    rw [List.getElem?_modify]
    by_cases e : id.toNat = k
    · subst e
      cases hx : xss[id.toNat]? with
      | none => simp
      | some ys =>
        rw [hx] at h
        simp only [Option.bind_some] at h
        have hl : ys.length ≤ i.toNat := by simpa using h
        simp [List.set_eq_of_length_le hl]
    · simp [e]
  · rw [if_neg hc]
theorem cellv_none (xss : List (List Int)) (at_ : Int) : cellv xss (-1) at_ = none := by unfold cellv; rw [if_neg (by omega)]
set_option maxHeartbeats 4000000 in
set_option maxRecDepth 100000 in
theorem arr_make {W0 w : World} {X Y : Nat → Prop} {m : Nat} {V : Value} {d : Nat} {g : GS} {F : Nat} {f : Fr} (h : Ms W0 w X Y m V d g F f.vars f.arrs f.stack) (j : Nat) (z : Int) (hj : j < f.arrs.length) (hv : f.arrs.length ≤ 1048576) :
    Calls Tryz.prog 77 #[.pointer (some ⟨m, 0, none⟩), .pointer (some ⟨F, 0, none⟩), .agg #[.int .i64 22, .int .i64 (j : Int), .int .i64 z]] w (DoesP W0 w X Y m V d F ⟨22, (j : Int), z⟩ f g) := by
  obtain ⟨fn, at_, vars, arrs, stack⟩ := f
  simp only at h hj hv
  obtain ⟨w0, hw0⟩ : ∃ w0, w0 = w.alloc (.cells #[.int .i64 22, .int .i64 (j : Int), .int .i64 z] 42) := ⟨_, rfl⟩
  obtain ⟨P0, hP0⟩ : ∃ P0, P0 = w.heap.size := ⟨_, rfl⟩
  have hc0 : Chg (fun _ => False) w w0 := by rw [hw0]; exact (Chg.refl _ _).alloc _
  have hi0 : w0.heap[P0]? = some (.cells #[.int .i64 22, .int .i64 (j : Int), .int .i64 z] 42 (0, 0)) := by rw [hw0]; exact heap_new' hP0.symm
  obtain ⟨hm0, hg0⟩ := h.still hc0
  have HM0 := Lib.hid hm0
  have HG0 := Lib.hid hg0
  have HI0 := Lib.hid hi0
  have HWE := Lib.hid (And.intro hw0 hP0)
  have HPN : Hid (¬ X P0 ∧ ¬ Y P0) := Lib.hid ⟨fun e => by have := (h.lx _ e).2; omega, fun e => by have := (h.ly _ e).2; omega⟩
  have i0 := cell_of_block hi0 0
  have i1 := cell_of_block hi0 1
  have i2 := cell_of_block hi0 2
  simp at i0 i1 i2
  obtain ⟨mt, hp_, Sh, I0, I1, P, KV, CV, hms, hin⟩ := hm0.mi
  have b1 := cell_of_block hms.box 1
  simp at b1
  have HIN := Lib.hid hin
  obtain ⟨mk, hmk⟩ : ∃ mk, mk = makev g.q g.xss z := ⟨_, rfl⟩
  obtain ⟨m1, m2, m3⟩ := mk
  have HMK := Lib.hid hmk
  have CM : Hid (Calls Tryz.prog 91 #[.pointer (some ⟨hp_, 0, none⟩), .int .i64 z] w0.drew fun e w' => e = .returned (.tuple #[.int .i64 m1, .int .i64 m2]) ∧ HeapIs w' (fun k => Sh k ∨ w0.drew.heap.size ≤ k) hp_ g.q m3 ∧ Chg Sh w0.drew w') := Lib.hid (by
    have h := heap_make_any (hms.hep.kept (w' := w0.drew) (T := fun _ => False) ((Chg.refl _ _).drew) (fun _ _ x => x)) z
    rw [← hmk] at h
    exact h)
  clear hmk
  clear h hw0 hP0 hc0 hi0 hm0 hg0
  go_enter Tryz.func77, Tryz.ntmps77
  go_upto_region 1 with fail
  rw [← HWE.out.1, ← HWE.out.2]
  go_upto_region 2 with fail
  obtain ⟨wd, hwd⟩ : ∃ wd, wd = w0.drew := ⟨_, rfl⟩
  have hS : wd.cell? ⟨m, 1, none⟩ = some (.pointer (some ⟨hp_, 0, none⟩)) ∧ wd.cell? ⟨P0, 2, none⟩ = some (.int .i64 z) := by rw [hwd]; exact ⟨b1, i2⟩
  obtain ⟨hmd, hgd⟩ := HM0.out.still (w' := wd) (by rw [hwd]; exact (Chg.refl _ _).drew)
  have hmsd := hms.kept (w' := wd) (T := fun _ => False) (by rw [hwd]; exact (Chg.refl _ _).drew) HIN.out (fun _ _ x => x)
  refine wp_region_ord (S := fun w' => w'.cell? ⟨m, 1, none⟩ = some (.pointer (some ⟨hp_, 0, none⟩)) ∧ w'.cell? ⟨P0, 2, none⟩ = some (.int .i64 z)) (N := fun i => true) (by kernel_rfl) [(0, true), (1, true), (2, true), (3, true), (4, true), (5, true), (6, false), (7, true), (8, true), (9, true), (10, true), (11, true)] (by kernel_rfl) ?_
  rw [← hwd]
  rw [← hwd] at CM
  have HGD := Lib.hid (HG0.out.trans hgd)
  have HMD := Lib.hid hmd
  have HSS := Lib.hid hS
  have HI1 : Hid (wd.cell? ⟨P0, 1, none⟩ = some (.int .i64 (j : Int))) := Lib.hid (by rw [hwd]; exact i1)
  clear hwd hmd hgd b1 i0 i1 i2 hms
  iterate 6 (refine ord_look rfl hS rfl (by intro w hS; obtain ⟨p0, p1⟩ := hS; go_simp; with_reducible rfl) (fun c a w h => h) ?_; simp only [Act.put, List.setIfInBounds_toArray, List.set_cons_succ, List.set_cons_zero])
  refine ord_act rfl rfl (fun K hK => ?_)
  refine wp_call 91 _ _ Tryz.func91 rfl (by kernel_rfl) _ _ rfl #[.pointer (some ⟨hp_, 0, none⟩), .int .i64 z] (by simp [Act.eval]) (R := fun v w' => v = .tuple #[.int .i64 m1, .int .i64 m2] ∧ HeapIs w' (fun k => Sh k ∨ wd.heap.size ≤ k) hp_ g.q m3 ∧ Chg Sh wd w') (calls_ret CM.out (by rintro e w' ⟨rfl, h1, h2⟩; exact ⟨_, rfl, rfl, h1, h2⟩)) ?_
  rintro v w1 ⟨rfl, hh1, hc1⟩
  have hm1s := hmsd.heap m3 hc1 hh1
  have hmi1 : MIs W0 w1 (fun k => X k ∨ wd.heap.size ≤ k) m V d { g with xss := m3 } := ⟨mt, hp_, _, _, _, P, KV, CV, hm1s, ⟨.inl HIN.out.m, .inl HIN.out.mt, fun k hk => hk.1.imp (HIN.out.sh k) id, fun k hk => .inl (HIN.out.p k hk), fun k hk => .inl (HIN.out.k k hk), fun k hk => .inl (HIN.out.c k hk)⟩⟩
  obtain ⟨X1, hm1, hg1⟩ := HMD.out.mach hmi1 (hc1.mono (fun k _ e => HIN.out.sh k e))
  have hP0 : ¬ Sh P0 := fun e => HPN.out.1 (HIN.out.sh _ e)
  have hS1 : w1.cell? ⟨m, 1, none⟩ = some (.pointer (some ⟨hp_, 0, none⟩)) ∧ w1.cell? ⟨P0, 2, none⟩ = some (.int .i64 z) := ⟨hc1.cell HSS.out.1 (fun e => hmsd.sm e), hc1.cell HSS.out.2 hP0⟩
  have HI2 : Hid (w1.cell? ⟨P0, 1, none⟩ = some (.int .i64 (j : Int))) := Lib.hid (hc1.cell HI1.out hP0)
  refine hK _ _ ⟨fun _ => hS1, ?_⟩
  clear hK K hS
  have hS := hS1
  try simp only [Act.put, List.setIfInBounds_toArray, List.set_cons_succ, List.set_cons_zero]
  iterate 5 (refine ord_look rfl hS rfl (by intro w hS; obtain ⟨p0, p1⟩ := hS; go_simp; with_reducible rfl) (fun c a w h => h) ?_; simp only [Act.put, List.setIfInBounds_toArray, List.set_cons_succ, List.set_cons_zero])
  refine ord_end ?_
  have HM1 := Lib.hid hm1
  have HG1 := Lib.hid (HGD.out.trans hg1)
  clear hm1 hg1 hS hS1 hmi1 hm1s hh1 hc1 hmsd CM
  obtain ⟨VA, VB, VC, hs, hY1, hY2, hY3, hY4⟩ := HM1.out.fi
  obtain ⟨_, A, c, rfl⟩ := ownsRow_slice hs.vb
  obtain ⟨b, rfl, hb, hcap, hfz, hcell⟩ := ownsRow_cell hs.vb j hj
  have hx := hcell _ (nums_get arrs j hj)
  have c0 := cell_of_block hs.box 1
  simp at c0
  obtain ⟨x, hxe⟩ : ∃ x, x = arrs[j] := ⟨_, rfl⟩
  rw [← hxe] at hx
  obtain ⟨n, hn⟩ : ∃ n, n = arrs.length := ⟨_, rfl⟩
  have hjn : j < n := by omega
  rw [← hn] at c0 hcap
  have HN := Lib.hid hn
  have HXE := Lib.hid hxe
  have HS := Lib.hid hs
  have HY := Lib.hid (And.intro hY1 (And.intro hY2 (And.intro hY3 hY4)))
  have hnb : n ≤ 1048576 := by omega
  clear hxe hn
  go_upto_region 3 with fail
  obtain ⟨we, hwe⟩ : ∃ we, we = w1.drew := ⟨_, rfl⟩
  have hS : we.cell? ⟨F, 1, none⟩ = some (.slice (some ⟨b, 0, none⟩) n c) ∧ we.cell? ⟨P0, 1, none⟩ = some (.int .i64 (j : Int)) := by rw [hwe]; exact ⟨c0, HI2.out⟩
  obtain ⟨hme, hge⟩ := HM1.out.still (w' := we) (by rw [hwe]; exact (Chg.refl _ _).drew)
  have hse := hs.kept (w' := we) (T := fun _ => False) (by rw [hwe]; exact (Chg.refl _ _).drew) (fun x => x) (fun _ _ x => x) (fun _ _ x => x) (fun _ _ x => x)
  refine wp_region_ord (S := fun w' => w'.cell? ⟨F, 1, none⟩ = some (.slice (some ⟨b, 0, none⟩) n c) ∧ w'.cell? ⟨P0, 1, none⟩ = some (.int .i64 (j : Int))) (N := fun i => i != 8) (by kernel_rfl) [(0, true), (1, true), (2, true), (3, true), (4, true), (5, true), (6, true), (7, true), (8, false)] (by kernel_rfl) ?_
  rw [← hwe]
  have HGE := Lib.hid (HG1.out.trans hge)
  have HME := Lib.hid hme
  have hxe : we.cell? ⟨b, j, none⟩ = some (.int .i64 x) := by rw [hwe]; exact hx
  have hfe : we.frozen? ⟨b, j, none⟩ = false := by rw [hwe]; exact hfz
  clear hwe hme hge c0 hx hs hfz hcell
  iterate 8 (refine ord_look rfl hS rfl (by intro w hS; obtain ⟨p0, p1⟩ := hS; go_simp; with_reducible rfl) (fun c a w h => h) ?_; simp only [Act.put, List.setIfInBounds_toArray, List.set_cons_succ, List.set_cons_zero])
  refine ord_act rfl rfl (fun K hK => ?_)
  go_simp
  refine hK _ _ ⟨(fun h => by cases h), ?_⟩
  clear hK K
  try simp only [Act.put, List.setIfInBounds_toArray, List.set_cons_succ, List.set_cons_zero]
  refine ord_end ?_
  have hf2 := hse.setarr j (by rw [← HN.out]; exact hjn) m1
  have hc2 := Chg.set_cell (w := we) ⟨b, j, none⟩ (.int .i64 m1)
  have hfi : FIs (we.setCell ⟨b, j, none⟩ (.int .i64 m1)) (fun k => Y k ∨ we.heap.size ≤ k) F vars (arrs.set j m1) stack := ⟨_, _, _, hf2, .inl HY.out.1, fun k hk => .inl (HY.out.2.1 k hk), fun k hk => .inl (HY.out.2.2.1 k hk), fun k hk => .inl (HY.out.2.2.2 k hk)⟩
  obtain ⟨Y', hm2, hg2⟩ := HME.out.frame hfi (hc2.mono (fun k _ e => HY.out.2.2.1 k (by have e : k = b := e; rw [e]; rfl)))
  have HF := Lib.hid (And.intro hm2 (HGE.out.trans hg2))
  clear hS hfi hf2 hc2 hse hm2 hg2 hxe hfe
  go_wp2_with fail
  go_ret
  have e : doesv ⟨22, (j : Int), z⟩ ⟨fn, at_, vars, arrs, stack⟩ g = (m2, ⟨fn, at_, vars, arrs.set j m1, stack⟩, { g with xss := m3 }) := by
    have h : doesv ⟨22, (j : Int), z⟩ ⟨fn, at_, vars, arrs, stack⟩ g = ((makev g.q g.xss z).2.1, ⟨fn, at_, vars, arrs.set ((j : Int)).toNat (makev g.q g.xss z).1, stack⟩, { g with xss := (makev g.q g.xss z).2.2 }) := rfl
    rw [h, ← HMK.out, show ((j : Int)).toNat = j by omega]
  unfold DoesP
  rw [e]
  exact ⟨X1, Y', _, _, _, rfl, HF.out.1, HF.out.2, fun _ => ⟨rfl, rfl, rfl⟩⟩
set_option maxHeartbeats 4000000 in
set_option maxRecDepth 100000 in
theorem arr_get {W0 w : World} {X Y : Nat → Prop} {m : Nat} {V : Value} {d : Nat} {g : GS} {F : Nat} {f : Fr} (h : Ms W0 w X Y m V d g F f.vars f.arrs f.stack) (j : Nat) (nn : Int) (s : List Int) (y : Int) (hst : f.stack = s ++ [y]) (hj : j < f.arrs.length) (hv : f.arrs.length ≤ 1048576) (hl : f.stack.length ≤ 1048576) :
    Calls Tryz.prog 77 #[.pointer (some ⟨m, 0, none⟩), .pointer (some ⟨F, 0, none⟩), .agg #[.int .i64 23, .int .i64 (j : Int), .int .i64 nn]] w (DoesP W0 w X Y m V d F ⟨23, (j : Int), nn⟩ f g) := by
  obtain ⟨fn, at_, vars, arrs, stack⟩ := f
  simp only at h hst hj hv hl
  obtain ⟨w0, hw0⟩ : ∃ w0, w0 = w.alloc (.cells #[.int .i64 23, .int .i64 (j : Int), .int .i64 nn] 42) := ⟨_, rfl⟩
  obtain ⟨P0, hP0⟩ : ∃ P0, P0 = w.heap.size := ⟨_, rfl⟩
  have hc0 : Chg (fun _ => False) w w0 := by rw [hw0]; exact (Chg.refl _ _).alloc _
  have hi0 : w0.heap[P0]? = some (.cells #[.int .i64 23, .int .i64 (j : Int), .int .i64 nn] 42 (0, 0)) := by rw [hw0]; exact heap_new' hP0.symm
  obtain ⟨hm0, hg0⟩ := h.still hc0
  have HM0 := Lib.hid hm0
  have HG0 := Lib.hid hg0
  have HI0 := Lib.hid hi0
  have HWE := Lib.hid (And.intro hw0 hP0)
  have HPN : Hid (¬ X P0 ∧ ¬ Y P0) := Lib.hid ⟨fun e => by have := (h.lx _ e).2; omega, fun e => by have := (h.ly _ e).2; omega⟩
  have i0 := cell_of_block hi0 0
  have i1 := cell_of_block hi0 1
  have i2 := cell_of_block hi0 2
  simp at i0 i1 i2
  subst hst
  have hsl : s.length ≤ 1048576 := by simp at hl; omega
  clear h hw0 hP0 hc0 hi0 hm0 hg0
  go_enter Tryz.func77, Tryz.ntmps77
  go_upto_region 1 with fail
  rw [← HWE.out.1, ← HWE.out.2]
  have HMB := HM0
  have HGB := HG0
  have HPB := HPN
  have HI1 := Lib.hid i1
  have HI0c := Lib.hid i0
  clear i1 i2
  go_upto_region 8 with fail
  obtain ⟨VA, VB, VC, hs, hY1, hY2, hY3, hY4⟩ := HMB.out.fi
  obtain ⟨_, A, c, rfl⟩ := ownsRow_slice hs.vb
  obtain ⟨b, rfl, hb, hcap, hfz, hcell⟩ := ownsRow_cell hs.vb j hj
  have hx := hcell _ (nums_get arrs j hj)
  have c0 := cell_of_block hs.box 1
  simp at c0
  obtain ⟨x, hxe⟩ : ∃ x, x = arrs[j] := ⟨_, rfl⟩
  rw [← hxe] at hx
  obtain ⟨n, hn⟩ : ∃ n, n = arrs.length := ⟨_, rfl⟩
  have hjn : j < n := by omega
  rw [← hn] at c0 hcap
  have HN := Lib.hid hn
  have HXE := Lib.hid hxe
  have HS := Lib.hid hs
  have HY := Lib.hid (And.intro hY1 (And.intro hY2 (And.intro hY3 hY4)))
  have hnb : n ≤ 1048576 := by omega
  clear hxe hn
  obtain ⟨_, A3, c3, rfl⟩ := ownsRow_slice hs.vc
  have esl : (s ++ [y]).length = s.length + 1 := by simp
  rw [esl] at hs
  have HYC := Lib.hid hY4
  obtain ⟨we, hwe⟩ : ∃ we, we = w0.drew := ⟨_, rfl⟩
  have hS : we.cell? ⟨F, 1, none⟩ = some (.slice (some ⟨b, 0, none⟩) n c) ∧ we.cell? ⟨P0, 1, none⟩ = some (.int .i64 (j : Int)) ∧ we.cell? ⟨b, j, none⟩ = some (.int .i64 x) := by rw [hwe]; exact ⟨c0, HI1.out, hx⟩
  obtain ⟨hme, hge⟩ := HMB.out.still (w' := we) (by rw [hwe]; exact (Chg.refl _ _).drew)
  have hse := hs.kept (w' := we) (T := fun _ => False) (by rw [hwe]; exact (Chg.refl _ _).drew) (fun x => x) (fun _ _ x => x) (fun _ _ x => x) (fun _ _ x => x)
  have HGE := Lib.hid (HGB.out.trans hge)
  have HME := Lib.hid hme
  have HSS := Lib.hid hS
  have hI0 : we.cell? ⟨P0, 0, none⟩ = some (.int .i64 23) := by rw [hwe]; exact HI0c.out
  have HI0e := Lib.hid hI0
  refine wp_region_ord (S := fun w' => w'.cell? ⟨F, 1, none⟩ = some (.slice (some ⟨b, 0, none⟩) n c) ∧ w'.cell? ⟨P0, 1, none⟩ = some (.int .i64 (j : Int)) ∧ w'.cell? ⟨b, j, none⟩ = some (.int .i64 x)) (N := fun i => true) (by kernel_rfl) [(0, true), (1, true), (2, true), (3, true), (4, true), (5, true), (6, true), (7, true), (8, true), (9, false), (10, true), (11, true)] (by kernel_rfl) ?_
  rw [← hwe]
  clear hwe hme hge c0 hx hs hfz hcell hI0
  iterate 9 (refine ord_look rfl hS rfl (by intro w hS; obtain ⟨p0, p1, p2⟩ := hS; go_simp; with_reducible rfl) (fun c a w h => h) ?_; simp only [Act.put, List.setIfInBounds_toArray, List.set_cons_succ, List.set_cons_zero])
  refine ord_act rfl rfl (fun K hK => ?_)
  refine wp_call 60 _ _ Tryz.func60 rfl (by kernel_rfl) _ _ rfl #[.pointer (some ⟨F, 0, none⟩)] (by simp [Act.eval]) (R := fun v w' => v = .int .i64 y ∧ FSt w' F VA (.slice (some ⟨b, 0, none⟩) arrs.length c) (.slice A3 s.length c3) vars arrs s ∧ Chg (fun k => k = F) we w') (calls_ret (pop_st hse (by omega)) (by rintro e w' ⟨rfl, h1, h2⟩; exact ⟨_, rfl, rfl, h1, h2⟩)) ?_
  rintro v w1 ⟨rfl, hf, hc⟩
  have d0 := cell_of_block hf.box 1
  simp at d0
  rw [← HN.out] at d0
  have hPF : ¬ P0 = F := fun e => HPB.out.2 (by rw [e]; exact HY.out.1)
  have hS1 : w1.cell? ⟨F, 1, none⟩ = some (.slice (some ⟨b, 0, none⟩) n c) ∧ w1.cell? ⟨P0, 1, none⟩ = some (.int .i64 (j : Int)) ∧ w1.cell? ⟨b, j, none⟩ = some (.int .i64 x) := ⟨d0, hc.cell HSS.out.2.1 hPF, hc.cell HSS.out.2.2 (fun e => hse.nb (congrArg some e))⟩
  have HI0f := Lib.hid (hc.cell HI0e.out hPF)
  refine hK _ _ ⟨fun _ => hS1, ?_⟩
  clear hK K hS
  have hS := hS1
  try simp only [Act.put, List.setIfInBounds_toArray, List.set_cons_succ, List.set_cons_zero]
  iterate 2 (refine ord_look rfl hS rfl (by intro w hS; obtain ⟨p0, p1, p2⟩ := hS; go_simp; with_reducible rfl) (fun c a w h => h) ?_; simp only [Act.put, List.setIfInBounds_toArray, List.set_cons_succ, List.set_cons_zero])
  refine ord_end ?_
  have hfi : FIs w1 (fun k => Y k ∨ we.heap.size ≤ k) F vars arrs s := ⟨_, _, _, hf, .inl HY.out.1, fun k hk => .inl (HY.out.2.1 k hk), fun k hk => .inl (HY.out.2.2.1 k hk), fun k hk => .inl (own_len HYC.out k hk)⟩
  obtain ⟨Y1, hm1, hg1⟩ := HME.out.frame hfi (hc.mono (fun k _ e => by rw [e]; exact HY.out.1))
  have HM1 := Lib.hid hm1
  have HG1 := Lib.hid (HGE.out.trans hg1)
  have HXJ : Hid (arrs.getD j 0 = x) := Lib.hid (by rw [HXE.out, List.getD_eq_getElem?_getD, List.getElem?_eq_getElem (by rw [← HN.out]; exact hjn)]; rfl)
  clear hm1 hg1 hfi hf hc hS hS1 d0 hse
  have i0 := HI0f.out
  obtain ⟨mt, hp_, Sh, I0, I1, P, KV, CV, hms, hin⟩ := HM1.out.mi
  have b1 := cell_of_block hms.box 1
  simp at b1
  have HIN := Lib.hid hin
  have HMS := Lib.hid hms
  have ed : doesv ⟨23, (j : Int), nn⟩ ⟨fn, at_, vars, arrs, s ++ [y]⟩ g = (match cellv g.xss x y with | some n => (0, ⟨fn, at_, vars, arrs, s ++ [n]⟩, g) | none => (7, ⟨fn, at_, vars, arrs, s ++ [y]⟩, g)) := by
    have hxj := HXJ.out
    simp only [List.getD_eq_getElem?_getD] at hxj
    simp [doesv, top_snoc, hxj]
    all_goals (cases cellv g.xss x y <;> rfl)
  have HED := Lib.hid ed
  clear ed hin
  by_cases hx1 : x = -1
  · have hcv : cellv g.xss x y = none := by rw [hx1]; exact cellv_none _ _
    rw [hcv] at HED
    simp only at HED
    subst hx1
    clear hms b1 hcv
    go_wp2_with fail
    go_ret
    unfold DoesP
    rw [HED.out]
    exact ⟨X, Y1, _, _, _, rfl, HM1.out, HG1.out, (fun h => by cases h)⟩
  · have hb1 : (x == -1) = false := by rw [beq_eq_false_iff_ne]; exact hx1
    have CG := Lib.hid (heap_get_any hms.hep x y)
    obtain ⟨cv, hcv⟩ : ∃ cv, cellv g.xss x y = cv := ⟨_, rfl⟩
    rw [hcv] at CG HED
    have CP := Lib.hid (push_any (cv.getD 0) HM1.out.fi (by omega))
    clear hms hcv hx1
    cases cv with
    | none =>
      simp only [Option.getD_none, Option.isSome_none] at CG CP
      simp only at HED
      go_wp2_with fail
      refine CG.out.mono ?_; rintro e w2 ⟨rfl, rfl⟩
      go_wp2_with fail
      refine CP.out.mono ?_; rintro e w2 ⟨rfl, hf, hc⟩
      obtain ⟨Y2, hm2, hg2⟩ := HM1.out.frame hf hc
      have HF := Lib.hid (And.intro hm2 (HG1.out.trans hg2))
      clear hf hc hm2 hg2 b1 i0
      go_wp2_with fail
      go_ret
      unfold DoesP
      rw [HED.out]
      exact ⟨X, Y2, _, _, _, rfl, HF.out.1, HF.out.2, (fun h => by cases h)⟩
    | some v =>
      simp only [Option.getD_some, Option.isSome_some] at CG CP
      simp only at HED
      go_wp2_with fail
      refine CG.out.mono ?_; rintro e w2 ⟨rfl, rfl⟩
      go_wp2_with fail
      refine CP.out.mono ?_; rintro e w2 ⟨rfl, hf, hc⟩
      obtain ⟨Y2, hm2, hg2⟩ := HM1.out.frame hf hc
      have HF := Lib.hid (And.intro hm2 (HG1.out.trans hg2))
      clear hf hc hm2 hg2 b1 i0
      go_wp2_with fail
      go_ret
      unfold DoesP
      rw [HED.out]
      exact ⟨X, Y2, _, _, _, rfl, HF.out.1, HF.out.2, fun _ => ⟨rfl, rfl, rfl⟩⟩
set_option maxHeartbeats 4000000 in
set_option maxRecDepth 100000 in
theorem arr_set {W0 w : World} {X Y : Nat → Prop} {m : Nat} {V : Value} {d : Nat} {g : GS} {F : Nat} {f : Fr} (h : Ms W0 w X Y m V d g F f.vars f.arrs f.stack) (j : Nat) (nn : Int) (s : List Int) (y : Int) (u : Int) (hst : f.stack = s ++ [y] ++ [u]) (hj : j < f.arrs.length) (hv : f.arrs.length ≤ 1048576) (hl : f.stack.length ≤ 1048576) :
    Calls Tryz.prog 77 #[.pointer (some ⟨m, 0, none⟩), .pointer (some ⟨F, 0, none⟩), .agg #[.int .i64 24, .int .i64 (j : Int), .int .i64 nn]] w (DoesP W0 w X Y m V d F ⟨24, (j : Int), nn⟩ f g) := by
  obtain ⟨fn, at_, vars, arrs, stack⟩ := f
  simp only at h hst hj hv hl
  obtain ⟨w0, hw0⟩ : ∃ w0, w0 = w.alloc (.cells #[.int .i64 24, .int .i64 (j : Int), .int .i64 nn] 42) := ⟨_, rfl⟩
  obtain ⟨P0, hP0⟩ : ∃ P0, P0 = w.heap.size := ⟨_, rfl⟩
  have hc0 : Chg (fun _ => False) w w0 := by rw [hw0]; exact (Chg.refl _ _).alloc _
  have hi0 : w0.heap[P0]? = some (.cells #[.int .i64 24, .int .i64 (j : Int), .int .i64 nn] 42 (0, 0)) := by rw [hw0]; exact heap_new' hP0.symm
  obtain ⟨hm0, hg0⟩ := h.still hc0
  have HM0 := Lib.hid hm0
  have HG0 := Lib.hid hg0
  have HI0 := Lib.hid hi0
  have HWE := Lib.hid (And.intro hw0 hP0)
  have HPN : Hid (¬ X P0 ∧ ¬ Y P0) := Lib.hid ⟨fun e => by have := (h.lx _ e).2; omega, fun e => by have := (h.ly _ e).2; omega⟩
  have i0 := cell_of_block hi0 0
  have i1 := cell_of_block hi0 1
  have i2 := cell_of_block hi0 2
  simp at i0 i1 i2
  subst hst
  have hsl : s.length ≤ 1048576 := by simp at hl; omega
  clear h hw0 hP0 hc0 hi0 hm0 hg0
  go_enter Tryz.func77, Tryz.ntmps77
  go_upto_region 1 with fail
  rw [← HWE.out.1, ← HWE.out.2]
  have CQ := Lib.hid (pop_any HM0.out.fi (by simp; omega))
  have HI1a := Lib.hid i1
  have HI0a := Lib.hid i0
  go_wp2_with fail
  refine CQ.out.mono ?_; rintro e wb ⟨rfl, hfb, hcb⟩
  have hYF : Y F := by obtain ⟨_, _, _, _, h, _⟩ := HM0.out.fi; exact h
  have hPF0 : ¬ P0 = F := fun e => HPN.out.2 (by rw [e]; exact hYF)
  obtain ⟨YB, hmb, hgb⟩ := HM0.out.frame (hfb.mono (fun k hk _ => .inl hk)) (hcb.mono (fun k _ e => by rw [e]; exact hYF))
  have HI1 := Lib.hid (hcb.cell HI1a.out hPF0)
  have HI0c := Lib.hid (hcb.cell HI0a.out hPF0)
  have HPB : Hid (¬ X P0 ∧ ¬ YB P0) := Lib.hid ⟨HPN.out.1, fun e => by
    rcases hgb.gy P0 e with h | h
    · exact HPN.out.2 h
    · have := World.block_lt_of_cell? _ _ HI1a.out; simp at this; omega⟩
  have HMB := Lib.hid hmb
  have HGB := Lib.hid (HG0.out.trans hgb)
  clear hfb hcb hmb hgb CQ i1 i2 i0
  go_upto_region 8 with fail
  obtain ⟨VA, VB, VC, hs, hY1, hY2, hY3, hY4⟩ := HMB.out.fi
  obtain ⟨_, A, c, rfl⟩ := ownsRow_slice hs.vb
  obtain ⟨b, rfl, hb, hcap, hfz, hcell⟩ := ownsRow_cell hs.vb j hj
  have hx := hcell _ (nums_get arrs j hj)
  have c0 := cell_of_block hs.box 1
  simp at c0
  obtain ⟨x, hxe⟩ : ∃ x, x = arrs[j] := ⟨_, rfl⟩
  rw [← hxe] at hx
  obtain ⟨n, hn⟩ : ∃ n, n = arrs.length := ⟨_, rfl⟩
  have hjn : j < n := by omega
  rw [← hn] at c0 hcap
  have HN := Lib.hid hn
  have HXE := Lib.hid hxe
  have HS := Lib.hid hs
  have HY := Lib.hid (And.intro hY1 (And.intro hY2 (And.intro hY3 hY4)))
  have hnb : n ≤ 1048576 := by omega
  clear hxe hn
  obtain ⟨_, A3, c3, rfl⟩ := ownsRow_slice hs.vc
  have esl : (s ++ [y]).length = s.length + 1 := by simp
  rw [esl] at hs
  have HYC := Lib.hid hY4
  obtain ⟨we, hwe⟩ : ∃ we, we = wb.drew := ⟨_, rfl⟩
  have hS : we.cell? ⟨F, 1, none⟩ = some (.slice (some ⟨b, 0, none⟩) n c) ∧ we.cell? ⟨P0, 1, none⟩ = some (.int .i64 (j : Int)) ∧ we.cell? ⟨b, j, none⟩ = some (.int .i64 x) := by rw [hwe]; exact ⟨c0, HI1.out, hx⟩
  obtain ⟨hme, hge⟩ := HMB.out.still (w' := we) (by rw [hwe]; exact (Chg.refl _ _).drew)
  have hse := hs.kept (w' := we) (T := fun _ => False) (by rw [hwe]; exact (Chg.refl _ _).drew) (fun x => x) (fun _ _ x => x) (fun _ _ x => x) (fun _ _ x => x)
  have HGE := Lib.hid (HGB.out.trans hge)
  have HME := Lib.hid hme
  have HSS := Lib.hid hS
  have hI0 : we.cell? ⟨P0, 0, none⟩ = some (.int .i64 24) := by rw [hwe]; exact HI0c.out
  have HI0e := Lib.hid hI0
  refine wp_region_ord (S := fun w' => w'.cell? ⟨F, 1, none⟩ = some (.slice (some ⟨b, 0, none⟩) n c) ∧ w'.cell? ⟨P0, 1, none⟩ = some (.int .i64 (j : Int)) ∧ w'.cell? ⟨b, j, none⟩ = some (.int .i64 x)) (N := fun i => true) (by kernel_rfl) [(0, true), (1, true), (2, true), (3, true), (4, true), (5, true), (6, true), (7, true), (8, true), (9, false), (10, true), (11, true)] (by kernel_rfl) ?_
  rw [← hwe]
  clear hwe hme hge c0 hx hs hfz hcell hI0
  iterate 9 (refine ord_look rfl hS rfl (by intro w hS; obtain ⟨p0, p1, p2⟩ := hS; go_simp; with_reducible rfl) (fun c a w h => h) ?_; simp only [Act.put, List.setIfInBounds_toArray, List.set_cons_succ, List.set_cons_zero])
  refine ord_act rfl rfl (fun K hK => ?_)
  refine wp_call 60 _ _ Tryz.func60 rfl (by kernel_rfl) _ _ rfl #[.pointer (some ⟨F, 0, none⟩)] (by simp [Act.eval]) (R := fun v w' => v = .int .i64 y ∧ FSt w' F VA (.slice (some ⟨b, 0, none⟩) arrs.length c) (.slice A3 s.length c3) vars arrs s ∧ Chg (fun k => k = F) we w') (calls_ret (pop_st hse (by omega)) (by rintro e w' ⟨rfl, h1, h2⟩; exact ⟨_, rfl, rfl, h1, h2⟩)) ?_
  rintro v w1 ⟨rfl, hf, hc⟩
  have d0 := cell_of_block hf.box 1
  simp at d0
  rw [← HN.out] at d0
  have hPF : ¬ P0 = F := fun e => HPB.out.2 (by rw [e]; exact HY.out.1)
  have hS1 : w1.cell? ⟨F, 1, none⟩ = some (.slice (some ⟨b, 0, none⟩) n c) ∧ w1.cell? ⟨P0, 1, none⟩ = some (.int .i64 (j : Int)) ∧ w1.cell? ⟨b, j, none⟩ = some (.int .i64 x) := ⟨d0, hc.cell HSS.out.2.1 hPF, hc.cell HSS.out.2.2 (fun e => hse.nb (congrArg some e))⟩
  have HI0f := Lib.hid (hc.cell HI0e.out hPF)
  refine hK _ _ ⟨fun _ => hS1, ?_⟩
  clear hK K hS
  have hS := hS1
  try simp only [Act.put, List.setIfInBounds_toArray, List.set_cons_succ, List.set_cons_zero]
  iterate 2 (refine ord_look rfl hS rfl (by intro w hS; obtain ⟨p0, p1, p2⟩ := hS; go_simp; with_reducible rfl) (fun c a w h => h) ?_; simp only [Act.put, List.setIfInBounds_toArray, List.set_cons_succ, List.set_cons_zero])
  refine ord_end ?_
  have hfi : FIs w1 (fun k => YB k ∨ we.heap.size ≤ k) F vars arrs s := ⟨_, _, _, hf, .inl HY.out.1, fun k hk => .inl (HY.out.2.1 k hk), fun k hk => .inl (HY.out.2.2.1 k hk), fun k hk => .inl (own_len HYC.out k hk)⟩
  obtain ⟨Y1, hm1, hg1⟩ := HME.out.frame hfi (hc.mono (fun k _ e => by rw [e]; exact HY.out.1))
  have HM1 := Lib.hid hm1
  have HG1 := Lib.hid (HGE.out.trans hg1)
  have HXJ : Hid (arrs.getD j 0 = x) := Lib.hid (by rw [HXE.out, List.getD_eq_getElem?_getD, List.getElem?_eq_getElem (by rw [← HN.out]; exact hjn)]; rfl)
  clear hm1 hg1 hfi hf hc hS hS1 d0 hse
  have i0 := HI0f.out
  obtain ⟨mt, hp_, Sh, I0, I1, P, KV, CV, hms, hin⟩ := HM1.out.mi
  have b1 := cell_of_block hms.box 1
  simp at b1
  have HIN := Lib.hid hin
  have HMS := Lib.hid hms
  have ed : doesv ⟨24, (j : Int), nn⟩ ⟨fn, at_, vars, arrs, s ++ [y] ++ [u]⟩ g = (match cellv g.xss x y with | some _ => (0, ⟨fn, at_, vars, arrs, s⟩, { g with xss := setv g.xss x y u }) | none => (7, ⟨fn, at_, vars, arrs, s ++ [y] ++ [u]⟩, g)) := by
    have hxj := HXJ.out
    simp only [List.getD_eq_getElem?_getD] at hxj
    have e1 : (s ++ [y] ++ [u]).dropLast = s ++ [y] := List.dropLast_concat
    have e2 : (s ++ [y]).dropLast = s := List.dropLast_concat
    simp only [doesv, e1, e2, top_snoc]
    simp [hxj]
    all_goals (cases cellv g.xss x y <;> rfl)
  have HED := Lib.hid ed
  clear ed hin
  by_cases hx1 : x = -1
  · have hcv : cellv g.xss x y = none := by rw [hx1]; exact cellv_none _ _
    rw [hcv] at HED
    simp only at HED
    subst hx1
    clear hms b1 hcv
    go_wp2_with fail
    go_ret
    unfold DoesP
    rw [HED.out]
    exact ⟨X, Y1, _, _, _, rfl, HM1.out, HG1.out, (fun h => by cases h)⟩
  · have hb1 : (x == -1) = false := by rw [beq_eq_false_iff_ne]; exact hx1
    have CG := Lib.hid (heap_set_any hms.hep x y u)
    obtain ⟨cv, hcv⟩ : ∃ cv, cellv g.xss x y = cv := ⟨_, rfl⟩
    rw [hcv] at CG HED
    have HCV := Lib.hid hcv
    clear hms hcv hx1
    cases cv with
    | none =>
      simp only [Option.isSome_none] at CG
      simp only at HED
      go_wp2_with fail
      refine CG.out.mono ?_; rintro e w2 ⟨rfl, hh, hc⟩
      have hh2 : HeapIs w2 (fun k => Sh k ∨ w1.heap.size ≤ k) hp_ g.q (setv g.xss x y u) := hh.mono (fun k hk => .inl hk)
      have esv : setv g.xss x y u = g.xss := setv_none HCV.out u
      rw [esv] at hh2
      have hms2 := HMS.out.heap g.xss hc hh2
      have hmi2 : MIs W0 w2 (fun k => X k ∨ w1.heap.size ≤ k) m V d g := ⟨mt, hp_, _, _, _, P, KV, CV, hms2, ⟨.inl HIN.out.m, .inl HIN.out.mt, fun k hk => hk.1.imp (HIN.out.sh k) id, fun k hk => .inl (HIN.out.p k hk), fun k hk => .inl (HIN.out.k k hk), fun k hk => .inl (HIN.out.c k hk)⟩⟩
      obtain ⟨X2, hm2, hg2⟩ := HM1.out.mach hmi2 (hc.mono (fun k _ e => HIN.out.sh k e))
      have HF := Lib.hid (And.intro hm2 (HG1.out.trans hg2))
      clear hh hc hh2 hms2 hmi2 hm2 hg2 b1 i0 esv
      go_wp2_with fail
      go_ret
      unfold DoesP
      rw [HED.out]
      exact ⟨X2, Y1, _, _, _, rfl, HF.out.1, HF.out.2, (fun h => by cases h)⟩
    | some v =>
      simp only [Option.isSome_some] at CG
      simp only at HED
      go_wp2_with fail
      refine CG.out.mono ?_; rintro e w2 ⟨rfl, hh, hc⟩
      have hh2 : HeapIs w2 (fun k => Sh k ∨ w1.heap.size ≤ k) hp_ g.q (setv g.xss x y u) := hh.mono (fun k hk => .inl hk)
      have hms2 := HMS.out.heap _ hc hh2
      have hmi2 : MIs W0 w2 (fun k => X k ∨ w1.heap.size ≤ k) m V d { g with xss := setv g.xss x y u } := ⟨mt, hp_, _, _, _, P, KV, CV, hms2, ⟨.inl HIN.out.m, .inl HIN.out.mt, fun k hk => hk.1.imp (HIN.out.sh k) id, fun k hk => .inl (HIN.out.p k hk), fun k hk => .inl (HIN.out.k k hk), fun k hk => .inl (HIN.out.c k hk)⟩⟩
      obtain ⟨X2, hm2, hg2⟩ := HM1.out.mach hmi2 (hc.mono (fun k _ e => HIN.out.sh k e))
      have HF := Lib.hid (And.intro hm2 (HG1.out.trans hg2))
      clear hh hc hh2 hms2 hmi2 hm2 hg2 b1 i0
      go_wp2_with fail
      go_ret
      unfold DoesP
      rw [HED.out]
      exact ⟨X2, Y1, _, _, _, rfl, HF.out.1, HF.out.2, fun _ => ⟨rfl, rfl, rfl⟩⟩
set_option maxHeartbeats 4000000 in
set_option maxRecDepth 100000 in
theorem does_arr {W0 w : World} {X Y : Nat → Prop} {m : Nat} {V : Value} {d : Nat} {g : GS} {F : Nat} {f : Fr} (h : Ms W0 w X Y m V d g F f.vars f.arrs f.stack) (op z a : Int) (ho : op = 22 ∨ op = 23 ∨ op = 24) (hC : ∀ w0, Gr w X Y w0 X Y → Ms W0 w0 X Y m V d g F f.vars f.arrs f.stack → Calls Tryz.prog 77 #[.pointer (some ⟨m, 0, none⟩), .pointer (some ⟨F, 0, none⟩), .agg #[.int .i64 op, .int .i64 a, .int .i64 z]] w0 (DoesP W0 w0 X Y m V d F ⟨op, a, z⟩ f g)) :
    Calls Tryz.prog 61 #[.pointer (some ⟨m, 0, none⟩), .pointer (some ⟨F, 0, none⟩), .agg #[.int .i64 op, .int .i64 a, .int .i64 z]] w (DoesP W0 w X Y m V d F ⟨op, a, z⟩ f g) := by
  obtain ⟨fn, at_, vars, arrs, stack⟩ := f
  simp only at h hC
  obtain ⟨w0, hw0⟩ : ∃ w0, w0 = w.alloc (.cells #[.int .i64 op, .int .i64 a, .int .i64 z] 42) := ⟨_, rfl⟩
  obtain ⟨P0, hP0⟩ : ∃ P0, P0 = w.heap.size := ⟨_, rfl⟩
  have hc0 : Chg (fun _ => False) w w0 := by rw [hw0]; exact (Chg.refl _ _).alloc _
  have hi0 : w0.heap[P0]? = some (.cells #[.int .i64 op, .int .i64 a, .int .i64 z] 42 (0, 0)) := by rw [hw0]; exact heap_new' hP0.symm
  obtain ⟨hm0, hg0⟩ := h.still hc0
  have HM0 := Lib.hid hm0
  have HG0 := Lib.hid hg0
  have HI0 := Lib.hid hi0
  have HWE := Lib.hid (And.intro hw0 hP0)
  have HPN : Hid (¬ X P0 ∧ ¬ Y P0) := Lib.hid ⟨fun e => by have := (h.lx _ e).2; omega, fun e => by have := (h.ly _ e).2; omega⟩
  have i0 := cell_of_block hi0 0
  have i1 := cell_of_block hi0 1
  have i2 := cell_of_block hi0 2
  simp at i0 i1 i2
  have CA := Lib.hid (hC w0 hg0 hm0)
  clear h hw0 hP0 hc0 hi0 hm0 hg0
  go_enter Tryz.func61, Tryz.ntmps61
  go_upto_region 1 with fail
  rw [← HWE.out.1, ← HWE.out.2]
  obtain ⟨dv, hdv⟩ : ∃ dv, doesv ⟨op, a, z⟩ ⟨fn, at_, vars, arrs, stack⟩ g = dv := ⟨_, rfl⟩
  have HDV := Lib.hid hdv
  have CB : Hid (Calls Tryz.prog 77 #[.pointer (some ⟨m, 0, none⟩), .pointer (some ⟨F, 0, none⟩), .agg #[.int .i64 op, .int .i64 a, .int .i64 z]] w0 fun e w' => ∃ X' Y' vars' arrs' stack', e = .returned (.int .i64 dv.1) ∧ Ms W0 w' X' Y' m V d dv.2.2 F vars' arrs' stack' ∧ Gr w0 X Y w' X' Y' ∧ (dv.1 = 0 → vars' = dv.2.1.vars ∧ arrs' = dv.2.1.arrs ∧ stack' = dv.2.1.stack)) := Lib.hid (by rw [← hdv]; exact CA.out)
  clear hC hdv CA
  rcases ho with rfl | rfl | rfl
  all_goals
    go_wp2_with fail
    refine CB.out.mono ?_; rintro e w1 ⟨X1, Y1, v1, a1, s1, rfl, hm1, hg1, hh⟩
    have HF := Lib.hid (And.intro hm1 (And.intro (HG0.out.trans hg1) hh))
    clear hm1 hg1 hh CB i0 i1 i2
    go_wp2_with fail
    go_ret
    unfold DoesP
    rw [HDV.out]
    exact ⟨X1, Y1, _, _, _, rfl, HF.out⟩
set_option maxHeartbeats 4000000 in
set_option maxRecDepth 100000 in
theorem does_op {W0 w : World} {X Y : Nat → Prop} {m : Nat} {V : Value} {d : Nat} {g : GS} {F : Nat} {f : Fr} (h : Ms W0 w X Y m V d g F f.vars f.arrs f.stack) (op z a : Int) (ho : 4 ≤ op ∧ op ≤ 14) (hC : ∀ w0, Gr w X Y w0 X Y → Ms W0 w0 X Y m V d g F f.vars f.arrs f.stack → ∃ r s, Calls Tryz.prog 78 #[.pointer (some ⟨F, 0, none⟩), .int .i64 op] w0 (RecP W0 w0 X Y m V d g F f.vars f.arrs s r) ∧ doesv ⟨op, a, z⟩ f g = if r.2 = true then (0, ⟨f.fn, f.at_, f.vars, f.arrs, s ++ [r.1]⟩, g) else (7, f, g)) :
    Calls Tryz.prog 61 #[.pointer (some ⟨m, 0, none⟩), .pointer (some ⟨F, 0, none⟩), .agg #[.int .i64 op, .int .i64 a, .int .i64 z]] w (DoesP W0 w X Y m V d F ⟨op, a, z⟩ f g) := by
  obtain ⟨fn, at_, vars, arrs, stack⟩ := f
  simp only at h hC
  obtain ⟨w0, hw0⟩ : ∃ w0, w0 = w.alloc (.cells #[.int .i64 op, .int .i64 a, .int .i64 z] 42) := ⟨_, rfl⟩
  obtain ⟨P0, hP0⟩ : ∃ P0, P0 = w.heap.size := ⟨_, rfl⟩
  have hc0 : Chg (fun _ => False) w w0 := by rw [hw0]; exact (Chg.refl _ _).alloc _
  have hi0 : w0.heap[P0]? = some (.cells #[.int .i64 op, .int .i64 a, .int .i64 z] 42 (0, 0)) := by rw [hw0]; exact heap_new' hP0.symm
  obtain ⟨hm0, hg0⟩ := h.still hc0
  have HM0 := Lib.hid hm0
  have HG0 := Lib.hid hg0
  have HI0 := Lib.hid hi0
  have HWE := Lib.hid (And.intro hw0 hP0)
  have HPN : Hid (¬ X P0 ∧ ¬ Y P0) := Lib.hid ⟨fun e => by have := (h.lx _ e).2; omega, fun e => by have := (h.ly _ e).2; omega⟩
  have i0 := cell_of_block hi0 0
  have i1 := cell_of_block hi0 1
  have i2 := cell_of_block hi0 2
  simp at i0 i1 i2
  obtain ⟨r, s, hca, hdv⟩ := hC w0 hg0 hm0
  have CA := Lib.hid hca
  clear h hw0 hP0 hc0 hi0 hm0 hg0
  go_enter Tryz.func61, Tryz.ntmps61
  go_upto_region 1 with fail
  rw [← HWE.out.1, ← HWE.out.2]
  have HD := Lib.hid hdv
  clear hC hdv hca
  have t1 : (op == 1) = false := by rw [beq_eq_false_iff_ne]; omega
  have t2 : (op == 2) = false := by rw [beq_eq_false_iff_ne]; omega
  have t3 : (op == 3) = false := by rw [beq_eq_false_iff_ne]; omega
  have t17 : (op == 17) = false := by rw [beq_eq_false_iff_ne]; omega
  have t19 : (op == 19) = false := by rw [beq_eq_false_iff_ne]; omega
  have t20 : (op == 20) = false := by rw [beq_eq_false_iff_ne]; omega
  have t21 : (op == 21) = false := by rw [beq_eq_false_iff_ne]; omega
  have t25 : (op == 25) = false := by rw [beq_eq_false_iff_ne]; omega
  have t22 : (op == 22) = false := by rw [beq_eq_false_iff_ne]; omega
  have t23 : (op == 23) = false := by rw [beq_eq_false_iff_ne]; omega
  have t24 : (op == 24) = false := by rw [beq_eq_false_iff_ne]; omega
  go_wp2_with fail
  refine CA.out.mono ?_; rintro e w1 ⟨Y1, s1, rfl, hm1, hg1, hh⟩
  have HF := Lib.hid (And.intro hm1 (And.intro (HG0.out.trans hg1) hh))
  clear hm1 hg1 hh CA i0 i1 i2
  obtain ⟨r1, r2⟩ := r
  simp only at HD HF ⊢
  cases r2 with
  | false =>
    go_wp2_with fail
    go_ret
    unfold DoesP
    rw [HD.out]
    exact ⟨X, Y1, _, _, _, rfl, HF.out.1, HF.out.2.1, (fun h => by cases h)⟩
  | true =>
    go_wp2_with fail
    go_ret
    unfold DoesP
    rw [HD.out]
    exact ⟨X, Y1, _, _, _, rfl, HF.out.1, HF.out.2.1, fun _ => ⟨rfl, rfl, HF.out.2.2 (by first | rfl | trivial)⟩⟩
end Go.Proofs.YtahmnmpfjgddpaaGreatDoor
namespace Go.Proofs.YtahmnmpfjgddpaaGreatDoor
set_option linter.unusedVariables false
set_option linter.unusedSimpArgs false
open Go.RowKit

theorem snoc_of {l : List Int} (h : 0 < l.length) : ∃ s y, l = s ++ [y] := by
  rcases List.eq_nil_or_concat l with rfl | ⟨s, y, rfl⟩
  · simp at h
  · exact ⟨s, y, by simp⟩
theorem snoc2_of {l : List Int} (h : 1 < l.length) : ∃ s x y, l = s ++ [x] ++ [y] := by
  obtain ⟨s, y, rfl⟩ := snoc_of (l := l) (by omega)
  obtain ⟨t, x, rfl⟩ := snoc_of (l := s) (by simp at h; omega)
  exact ⟨t, x, y, rfl⟩
theorem takes_two {op : Int} (h : 6 ≤ op ∧ op ≤ 14) : takesv op = 2 := by
  have h : op = 6 ∨ op = 7 ∨ op = 8 ∨ op = 9 ∨ op = 10 ∨ op = 11 ∨ op = 12 ∨ op = 13 ∨ op = 14 := by omega
  rcases h with rfl | rfl | rfl | rfl | rfl | rfl | rfl | rfl | rfl <;> rfl
theorem doesv_op2 (op a z : Int) (f : Fr) (g : GS) (s : List Int) (x y : Int) (hf : f.stack = s ++ [x] ++ [y]) (h : 6 ≤ op ∧ op ≤ 14) :
    doesv ⟨op, a, z⟩ f g = if (doV (op + 2) x y).2 = true then (0, ⟨f.fn, f.at_, f.vars, f.arrs, s ++ [(doV (op + 2) x y).1]⟩, g) else (7, f, g) := by
  obtain ⟨fn, at_, vars, arrs, stack⟩ := f
  simp only at hf
  subst hf
  have e1 : (s ++ [x] ++ [y]).dropLast = s ++ [x] := List.dropLast_concat
  have e2 : (s ++ [x]).dropLast = s := List.dropLast_concat
  unfold doesv
  simp only [e1, e2, top_snoc]
  rw [if_neg (by omega), if_neg (by omega), if_neg (by omega), if_neg (by omega), if_neg (by omega), if_neg (by omega), if_neg (by omega), if_neg (by omega), if_neg (by omega), if_neg (by omega), if_pos (takes_two h)]
theorem doesv_op1 (op a z : Int) (f : Fr) (g : GS) (s : List Int) (x : Int) (hf : f.stack = s ++ [x]) (h : op = 4 ∨ op = 5) :
    doesv ⟨op, a, z⟩ f g = if (doV (op + 2) x 0).2 = true then (0, ⟨f.fn, f.at_, f.vars, f.arrs, s ++ [(doV (op + 2) x 0).1]⟩, g) else (7, f, g) := by
  obtain ⟨fn, at_, vars, arrs, stack⟩ := f
  simp only at hf
  subst hf
  have e1 : (s ++ [x]).dropLast = s := List.dropLast_concat
  unfold doesv
  simp only [e1, top_snoc]
  have ht : takesv op = 1 := by rcases h with rfl | rfl <;> rfl
  rw [if_neg (by omega), if_neg (by omega), if_neg (by omega), if_neg (by omega), if_neg (by omega), if_neg (by omega), if_neg (by omega), if_neg (by omega), if_neg (by omega), if_neg (by omega), if_neg (by omega)]

theorem does_any {W0 w : World} {X Y : Nat → Prop} {m : Nat} {V : Value} {d : Nat} {g : GS} {F : Nat} {f : Fr} (h : Ms W0 w X Y m V d g F f.vars f.arrs f.stack) (hs : SortsIs W0) {k : Nat} {fn : FnR} (i : InsR) (hok : opOk k fn i = true)
    (hv : (f.vars.length : Int) = fn.vs) (ha : (f.arrs.length : Int) = fn.ar) (hv64 : fn.vs ≤ 64) (ha64 : fn.ar ≤ 64) (ht : takesv i.op ≤ (f.stack.length : Int)) (hnc : i.op ≠ 15 ∧ i.op ≠ 16 ∧ i.op ≠ 17 ∧ i.op ≠ 18)
    (hst : f.stack.length ≤ 1048576) (hp : g.pr.length ≤ 1048576) (hk : g.ke.length ≤ 1048576) (hc : g.cl.length ≤ 1048576) :
    Calls Tryz.prog 61 #[.pointer (some ⟨m, 0, none⟩), .pointer (some ⟨F, 0, none⟩), i.agg] w (DoesP W0 w X Y m V d F i f g) := by
  have hkn := opOk_known hok
  obtain ⟨op, a, nn⟩ := i
  simp only at ht hnc hkn
  unfold InsR.agg
  simp only
  have hcs : op = 1 ∨ op = 2 ∨ op = 3 ∨ (op = 4 ∨ op = 5) ∨ (6 ≤ op ∧ op ≤ 14) ∨ op = 19 ∨ op = 20 ∨ op = 21 ∨ op = 22 ∨ op = 23 ∨ op = 24 ∨ op = 25 := by omega
  rcases hcs with rfl | rfl | rfl | ho | ho | rfl | rfl | rfl | rfl | rfl | rfl | rfl
  · exact does_push h a nn (by omega)
  · unfold opOk at hok
    simp at hok
    obtain ⟨j, rfl⟩ : ∃ j : Nat, a = (j : Int) := ⟨a.toNat, by omega⟩
    exact does_load h j nn (by omega) (by omega) (by omega)
  · unfold opOk at hok
    simp at hok
    obtain ⟨j, rfl⟩ : ∃ j : Nat, a = (j : Int) := ⟨a.toNat, by omega⟩
    have ht : (1 : Int) ≤ (f.stack.length : Int) := ht
    obtain ⟨s, y, e⟩ := snoc_of (l := f.stack) (by omega)
    exact does_store h j nn s y e (by omega) (by omega) (by omega)
  · have ht1 : takesv op = 1 := by rcases ho with rfl | rfl <;> rfl
    obtain ⟨s, x, e⟩ := snoc_of (l := f.stack) (by omega)
    have hsl : s.length ≤ 1048576 := by have := congrArg List.length e; simp at this; omega
    refine does_op h op nn a (by omega) (fun w0 hg hm => ⟨doV (op + 2) x 0, s, ?_, doesv_op1 op a nn f g s x e ho⟩)
    rw [e] at hm
    exact reckon1 x hm hs op ho hsl
  · rw [takes_two ho] at ht
    obtain ⟨s, x, y, e⟩ := snoc2_of (l := f.stack) (by omega)
    have hsl : s.length ≤ 1048576 := by have := congrArg List.length e; simp at this; omega
    refine does_op h op nn a (by omega) (fun w0 hg hm => ⟨doV (op + 2) x y, s, ?_, doesv_op2 op a nn f g s x y e ho⟩)
    rw [e] at hm
    exact reckon2 x y hm hs op ho hsl
  · have ht : (1 : Int) ≤ (f.stack.length : Int) := ht
    obtain ⟨s, y, e⟩ := snoc_of (l := f.stack) (by omega)
    exact does_print h a nn s y e (by omega) (by omega)
  · have ht : (1 : Int) ≤ (f.stack.length : Int) := ht
    obtain ⟨s, y, e⟩ := snoc_of (l := f.stack) (by omega)
    exact does_keep h a nn s y e (by omega) (by omega)
  · unfold opOk at hok
    simp at hok
    obtain ⟨j, rfl⟩ : ∃ j : Nat, a = (j : Int) := ⟨a.toNat, by omega⟩
    rcases hok.2 with rfl | rfl
    · exact does_input0 h j (by omega) (by omega)
    · exact does_input1 h j (by omega) (by omega)
  · unfold opOk at hok
    simp at hok
    obtain ⟨j, rfl⟩ : ∃ j : Nat, a = (j : Int) := ⟨a.toNat, by omega⟩
    exact does_arr h 22 nn j (.inl rfl) (fun w0 hg hm => arr_make hm j nn (by omega) (by omega))
  · unfold opOk at hok
    simp at hok
    obtain ⟨j, rfl⟩ : ∃ j : Nat, a = (j : Int) := ⟨a.toNat, by omega⟩
    have ht : (1 : Int) ≤ (f.stack.length : Int) := ht
    obtain ⟨s, y, e⟩ := snoc_of (l := f.stack) (by omega)
    exact does_arr h 23 nn j (.inr (.inl rfl)) (fun w0 hg hm => arr_get hm j nn s y e (by omega) (by omega) (by omega))
  · unfold opOk at hok
    simp at hok
    obtain ⟨j, rfl⟩ : ∃ j : Nat, a = (j : Int) := ⟨a.toNat, by omega⟩
    have ht : (2 : Int) ≤ (f.stack.length : Int) := ht
    obtain ⟨s, x, y, e⟩ := snoc2_of (l := f.stack) (by omega)
    exact does_arr h 24 nn j (.inr (.inr rfl)) (fun w0 hg hm => arr_set hm j nn s x y e (by omega) (by omega) (by omega))
  · exact does_clock h a nn (by omega) (by omega)
end Go.Proofs.YtahmnmpfjgddpaaGreatDoor
namespace Go.Proofs.YtahmnmpfjgddpaaGreatDoor
set_option linter.unusedVariables false
set_option linter.unusedSimpArgs false
open Go.RowKit

theorem and32 (n : Nat) (h : n < 4294967296) : bits .and .u64 (n : Int) 4294967295 = (n : Int) := by
  have := bits_and_u64_nat n 4294967295 (by omega) (by omega)
  rw [show ((4294967295 : Nat) : Int) = 4294967295 from rfl] at this
  rw [this, show (4294967295 : Nat) = 2 ^ 32 - 1 from rfl, Nat.and_two_pow_sub_one_eq_mod]
  congr 1
  omega
set_option maxRecDepth 100000 in
theorem mul64_one (n : Nat) (hn : n ≤ 64) (w : World) : Calls Tryz.prog 90 #[.int .u64 1, .int .u64 n] w fun e w' => e = .returned (.tuple #[.int .u64 0, .int .u64 n]) ∧ w' = w := by
  have h1 : bits .and .u64 1 4294967295 = 1 := and32 1 (by omega)
  have h2 := and32 n (by omega)
  have h0 : bits .and .u64 0 4294967295 = 0 := and32 0 (by omega)
  have h3 : (n : Int) / 4294967296 = 0 := by omega
  have h4 : (n : Int) / 2 ^ 32 = 0 := by omega
  have h5 : IntKind.u64.wrap (n : Int) = (n : Int) := by rw [show (n : Int) = ((n : Nat) : Int) from rfl]; unfold IntKind.wrap; simp [IntKind.bits, IntKind.signed]; omega
  go_enter Tryz.func90, Tryz.ntmps90
  go_wp2
  go_ret2
  exact ⟨rfl, rfl⟩
set_option maxRecDepth 100000 in
theorem mul_one (n : Nat) (hn : n ≤ 64) (w : World) : Calls Tryz.prog 73 #[.int .u64 1, .int .u64 n] w fun e w' => e = .returned (.tuple #[.int .u64 0, .int .u64 n]) ∧ w' = w := by
  have C := Lib.hid (mul64_one n hn w)
  go_enter Tryz.func73, Tryz.ntmps73
  go_wp2_with fail
  refine C.out.mono ?_; rintro e w1 ⟨rfl, rfl⟩
  go_wp2_with fail
  go_ret2
  exact ⟨rfl, rfl⟩
theorem mkI (n : Nat) (hn : n ≤ 64) : ∀ W : World, (Instr.makeSlice 121 (.int .i64 (n : Int)) (.int .i64 (n : Int))).run Tryz.prog W = .ok (.slice (some ⟨W.heap.size, 0, none⟩) n n) (W.alloc (.cells (madeCells #[.int .i64 0] n) 3)) := by
  intro W
  exact run_make_row' 121 3 (.int .i64 0) 8 Tryz.underlying121 (by kernel_rfl) rfl .i64 .i64 n (by omega) (by omega) W
theorem mkL (n : Nat) (hn : n ≤ 64) : ∀ W : World, (Instr.makeSlice 25 (.int .i64 (n : Int)) (.int .i64 (n : Int))).run Tryz.prog W = .ok (.slice (some ⟨W.heap.size, 0, none⟩) n n) (W.alloc (.cells (madeCells #[.int .i64 0] n) 2)) := by
  intro W
  exact run_make_row' 25 2 (.int .i64 0) 8 Tryz.underlying25 (by kernel_rfl) rfl .i64 .i64 n (by omega) (by omega) W
theorem sizeI : (Tryz.prog.info? 3).map (·.size) = some 1 := by kernel_rfl
theorem sizeL : (Tryz.prog.info? 2).map (·.size) = some 1 := by kernel_rfl
theorem made_size (n : Nat) : (madeCells #[.int .i64 0] n).size = n := by simp [madeCells]

/-- the first k of n cells of block G are the number x -/
structure Half (w : World) (G n k : Nat) (x : Int) (t : TypeId) : Prop where
  at_ : ∃ cur : Array Value, w.heap[G]? = some (.cells cur t (0, 0)) ∧ cur.size = n ∧ ∀ j, j < k → cur[j]? = some (.int .i64 x)
theorem Half.more {w : World} {G n k m : Nat} {x : Int} {t : TypeId} {cur : Array Value} (hb : w.heap[G]? = some (.cells cur t (0, 0))) (hs : cur.size = n) (hk : ∀ j, j < k → cur[j]? = some (.int .i64 x)) (hm : k + m ≤ n) :
    Half (w.setRow G (over cur.toList k (List.replicate m (.int .i64 x))).toArray) G n (k + m) x t := by
  refine ⟨_, setRow_heap w G cur _ t (0, 0) hb, ?_, fun j hj => ?_⟩
  · rw [List.size_toArray, over_length _ _ _ (by simp [hs]; omega)]; simpa using hs
  · rw [List.getElem?_toArray, over_get _ _ _ (by simp [hs]; omega)]
    by_cases h1 : j < k
    · rw [if_pos h1, Array.getElem?_toList]; exact hk j h1
    · rw [if_neg h1, if_pos (by simp; omega), List.getElem?_replicate, if_pos (by omega)]

set_option maxHeartbeats 1000000 in
set_option maxRecDepth 100000 in
theorem repeat_any {w : World} (n : Nat) (hn : n ≤ 64) {b c : Nat} {x : Int} (hx : w.cell? ⟨b, 0, none⟩ = some (.int .i64 x)) :
    Calls Tryz.prog 59 #[.slice (some ⟨b, 0, none⟩) 1 c, .int .i64 n] w fun e w' => ∃ G, e = .returned (.slice (some ⟨G, 0, none⟩) n n) ∧ w'.ownsRow 0 3 1 (.slice (some ⟨G, 0, none⟩) n n) n (nums (List.replicate n x)) ∧ w.heap.size ≤ G ∧ Chg (fun _ => False) w w' := by
  have CM := Lib.hid (fun w => mul_one n hn w)
  have hmk := mkI n hn
  have e1 : IntKind.u64.wrap (n : Int) = (n : Int) := by unfold IntKind.wrap; simp [IntKind.bits, IntKind.signed]; omega
  have e2 : IntKind.i64.wrap (n : Int) = (n : Int) := by rw [IntKind.wrap_i64]; omega
  have HX := Lib.hid hx
  clear hx
  go_enter Tryz.func59, Tryz.ntmps59
  go_wp2_with fail
  refine (CM.out _).mono ?_; rintro e w1 ⟨rfl, rfl⟩
  go_upto_region 7 with fail
  obtain ⟨w2, hw2⟩ : ∃ w2, w2 = w1.alloc (.cells (madeCells #[.int .i64 0] n) 3) := ⟨_, rfl⟩
  obtain ⟨G, hG⟩ : ∃ G, G = w1.heap.size := ⟨_, rfl⟩
  rw [← hw2, ← hG]
  have hb2 : w2.heap[G]? = some (.cells (madeCells #[.int .i64 0] n) 3 (0, 0)) := by rw [hw2]; exact heap_new' hG.symm
  have hc2 : Chg (fun _ => False) w1 w2 := by rw [hw2]; exact (Chg.refl _ _).alloc _
  have hx2 := hc2.cell HX.out (fun x => x)
  obtain ⟨m, hm⟩ : ∃ m, m = Nat.min 1 n := ⟨_, rfl⟩
  have hmn : m ≤ n := by rw [hm]; exact Nat.min_le_right _ _
  have hm1 : m ≤ 1 := by rw [hm]; exact Nat.min_le_left _ _
  have hcp := copy_cells (P := Tryz.prog) w2 121 121 3 3 1 G 0 n n ⟨b, 0, none⟩ 1 c (madeCells #[.int .i64 0] n) 3 (List.replicate m (.int .i64 x)) Tryz.underlying121 sizeI hb2 (by simp [hm]) (fun j v hj => by
    have hj1 : j < m := by have := (List.getElem?_eq_some_iff.1 hj).1; simpa using this
    have : j = 0 := by omega
    subst this
    rw [List.getElem?_replicate, if_pos (by omega)] at hj
    injection hj with hj
    rw [← hj, add0]
    exact hx2) (by simp [made_size]; omega) (by intro v hv; rw [List.eq_of_mem_replicate hv]; rfl)
  rw [← hm] at hcp
  have hHf : Half (w2.setRow G (over (madeCells #[.int .i64 0] n).toList 0 (List.replicate m (.int .i64 x))).toArray) G n (0 + m) x 3 := Half.more hb2 (made_size n) (fun j hj => by omega) (by omega)
  rw [Nat.zero_add] at hHf
  have hc3 : Chg (fun k => w1.heap.size ≤ k) w1 (w2.setRow G (over (madeCells #[.int .i64 0] n).toList 0 (List.replicate m (.int .i64 x))).toArray) := (hc2.mono (fun _ _ x => x.elim)).setRow (fun hl => by omega) _
  have HH := Lib.hid (And.intro hHf hc3)
  have HCP := Lib.hid hcp
  have HMM := Lib.hid hm
  have HGG := Lib.hid hG
  have hmd : m < n → 1 ≤ m := fun h => by rw [hm]; exact Nat.le_min.2 ⟨Nat.le_refl 1, by omega⟩
  have HMD := Lib.hid hmd
  obtain ⟨w3, hw3⟩ : ∃ w3, w3 = w2.setRow G (over (madeCells #[.int .i64 0] n).toList 0 (List.replicate m (.int .i64 x))).toArray := ⟨_, rfl⟩
  rw [← hw3] at HH HCP
  clear hmk hw2 hG hb2 hc2 hx2 hcp hHf hc3 hm hmd hw3
  have hcp := HCP.out
  go_wp2_with fail
  clear hcp
  go_loopg [8] (n - m) (fun kk V wr => ∃ k : Nat, k ≤ n ∧ kk = n - k ∧ V = .int .i64 (k : Int) ∧ Hid (k < n → 1 ≤ k) ∧ Hid (Half wr G n k x 3) ∧ Hid (Chg (fun k => w1.heap.size ≤ k) w1 wr))
  case atStart => exact ⟨m, hmn, by omega, rfl, HMD, Lib.hid HH.out.1, Lib.hid HH.out.2⟩
  case round =>
    obtain ⟨k, hk, hkk, rfl, HK1, HHF, HCH⟩ := hrel
    have HKK := Lib.hid hkk
    clear hkk HH HCP
    by_cases hlt : k < n
    · have hk1 := HK1.out hlt
      have hne : ¬ n = k := by omega
      obtain ⟨m2, hm2⟩ : ∃ m2, m2 = Nat.min k (n - k) := ⟨_, rfl⟩
      have hm2a : m2 ≤ k := by rw [hm2]; exact Nat.min_le_left _ _
      have hm2b : m2 ≤ n - k := by rw [hm2]; exact Nat.min_le_right _ _
      have hm2c : 1 ≤ m2 := by rw [hm2]; exact Nat.le_min.2 ⟨hk1, by omega⟩
      go_upto_region 9 with fail
      obtain ⟨wd, hwd⟩ : ∃ wd, wd = wr.drew := ⟨_, rfl⟩
      obtain ⟨cur, hb, hs, hcs⟩ := HHF.out.at_
      have hbd : wd.heap[G]? = some (.cells cur 3 (0, 0)) := by rw [hwd]; exact hb
      have hcp := copy_cells (P := Tryz.prog) wd 121 121 3 3 1 G k (n - k) (n - k) ⟨G, 0, none⟩ k n cur 3 (List.replicate m2 (.int .i64 x)) Tryz.underlying121 sizeI hbd (by simp [hm2]) (fun j v hj => by
        have hj1 : j < m2 := by have := (List.getElem?_eq_some_iff.1 hj).1; simpa using this
        rw [List.getElem?_replicate, if_pos hj1] at hj
        injection hj with hj
        rw [← hj, add0, cell_of_block hbd j]
        exact hcs j (by omega)) (by simp [hs]; omega) (by intro v hv; rw [List.eq_of_mem_replicate hv]; rfl)
      rw [← hm2] at hcp
      clear hm2
      have hwk : IntKind.i64.wrap ((k : Int) + (m2 : Int)) = ((k + m2 : Nat) : Int) := by rw [IntKind.wrap_i64]; omega
      have hHf := Half.more hbd hs hcs (m := m2) (by omega)
      have hcd : Chg (fun k => w1.heap.size ≤ k) w1 wd := by rw [hwd]; exact HCH.out.drew
      obtain ⟨we, hwe⟩ : ∃ we, we = wd.setRow G (over cur.toList k (List.replicate m2 (.int .i64 x))).toArray := ⟨_, rfl⟩
      have hce : Chg (fun k => w1.heap.size ≤ k) w1 we := by rw [hwe]; exact hcd.setRow (fun hl => by have := HGG.out; omega) _
      rw [← hwe] at hcp hHf
      have HE := Lib.hid (And.intro hHf hce)
      refine wp_region_ord (S := fun w' => True) (N := fun i => true) (by kernel_rfl) [(0, true), (1, true), (2, true), (3, true), (4, true), (5, true), (6, true), (7, false), (8, true), (9, true)] (by kernel_rfl) ?_
      rw [← hwd]
      clear hwd hb hs hcs hbd hwe hHf hce hcd
      iterate 7 (refine ord_look rfl trivial rfl (by intro w hS; go_simp; with_reducible rfl) (fun c a w h => h) ?_; simp only [Act.put, List.setIfInBounds_toArray, List.set_cons_succ, List.set_cons_zero])
      refine ord_act rfl rfl (fun K hK => ?_)
      refine wp_copy_of _ _ _ _ _ rfl _ _ rfl rfl hcp ?_
      refine hK _ _ ⟨fun _ => trivial, ?_⟩
      clear hK K hcp
      try simp only [Act.put, List.setIfInBounds_toArray, List.set_cons_succ, List.set_cons_zero]
      iterate 2 (refine ord_look rfl trivial rfl (by intro w hS; go_simp; with_reducible rfl) (fun c a w h => h) ?_; simp only [Act.put, List.setIfInBounds_toArray, List.set_cons_succ, List.set_cons_zero])
      refine ord_end ?_
      have HM2 := Lib.hid (And.intro hm2c hm2b)
      go_wp2_with fail
      go_roundg (n - (k + m2))
      case measure => have := HKK.out; have := HM2.out; omega
      case rel => exact ⟨k + m2, by omega, rfl, by go_num, Lib.hid (fun _ => by omega), Lib.hid HE.out.1, Lib.hid HE.out.2⟩
    · obtain rfl : k = n := by omega
      go_wp2_with fail
      go_ret
      obtain ⟨cur, hb, hs, hcs⟩ := HHF.out.at_
      refine ⟨G, rfl, ⟨by simp [nums], .inr ⟨G, k, cur, rfl, Nat.zero_le _, hb, Nat.le_refl _, by unfold maxLen; omega, by omega, ?_⟩⟩, by rw [HGG.out]; exact Nat.le_refl _, ?_⟩
      · apply List.ext_getElem?
        intro j
        rw [Nat.mul_one, List.getElem?_take, Array.getElem?_toList]
        by_cases h : j < k
        · rw [if_pos h, hcs j h]
          simp [nums, h]
        · rw [if_neg h]
          simp [nums, h]
      · exact ⟨HCH.out.os, HCH.out.tape, HCH.out.output, HCH.out.size, fun i hi _ => HCH.out.block i hi (by omega)⟩

/-! ### Clone -/
set_option maxRecDepth 100000 in
theorem cloneL_some {w : World} {ad : Addr} {n cap : Nat} {cs : List Value} (hcs : ∀ (j : Nat) u, cs[j]? = some u → w.cell? (ad.add j) = some u) (hl : cs.length = n * 1) (h1 : ∀ u ∈ cs, u.oneCell' = true) (hn : n ≤ 1048576) :
    Calls Tryz.prog 36 #[.slice (some ad) n cap] w fun e w' => ∃ v', e = .returned v' ∧ w'.ownsRow 0 2 1 v' n cs ∧ (∀ k, v'.ownBlock = some k → w.heap.size ≤ k) ∧ Chg (fun _ => False) w w' := by
  obtain ⟨i0, hi, hz0, hz1, hz2⟩ := info_parts infoL
  have hrow : (w.alloc (.cells #[] 2)).ownsRow 0 2 1 (.slice (some ⟨w.heap.size, 0, none⟩) 0 0) 0 [] :=
    ⟨rfl, .inr ⟨w.heap.size, 0, #[], rfl, Nat.zero_le _, heap_new _ _, Nat.le_refl _, by simp [maxLen], rfl, rfl⟩⟩
  have hnews : ∀ (j : Nat) u, cs[j]? = some u → (w.alloc (.cells #[] 2)).cell? (ad.add j) = some u := fun j u hu => cell_alloc (hcs j u hu) _
  have HR := Lib.hid hrow
  have HNW := Lib.hid hnews
  clear hcs hnews hrow
  have hnil := Go.run_eql_slice_nil (P := Tryz.prog) w 25 _ (some ad) n cap Tryz.underlying25
  simp only [Option.isNone] at hnil
  go_enter Tryz.func36, Tryz.ntmps36
  go_wp2_with (at_builtin; refine wpList_append_own_at _ rfl _ _ 25 rfl 0 2 i0 _ 1 8 Tryz.underlying25 hi hz0 hz1 hz2 rfl (by omega) (.slice (some ⟨w.heap.size, 0, none⟩) 0 0) 0 [] rfl HR.out ad n cap cs rfl hl HNW.out h1 (by unfold maxLen; omega) (by omega) (by omega) ?_; intro v' w' h2 h3 _ h5; simp only [Nat.zero_add, List.nil_append] at h2)
  go_ret
  refine ⟨v', rfl, h2, fun k hk => ?_, ((Chg.refl (fun _ => False) w).alloc _).grownBy h3 (fun k hk hlt => ?_)⟩
  · rcases h5 with h5 | h5
    · rw [h5] at hk
      have hk : w.heap.size = k := by injection hk
      omega
    · rw [h5] at hk
      injection hk with hk
      rw [← hk]
      simp
  · have hk : w.heap.size = k := by injection hk
    omega
set_option maxRecDepth 100000 in
theorem cloneL_nil {w : World} {cap : Nat} :
    Calls Tryz.prog 36 #[.slice none 0 cap] w fun e w' => ∃ v', e = .returned v' ∧ w'.ownsRow 0 2 1 v' 0 [] ∧ (∀ k, v'.ownBlock = some k → w.heap.size ≤ k) ∧ Chg (fun _ => False) w w' := by
  have hnil := Go.run_eql_slice_nil (P := Tryz.prog) w 25 _ none 0 cap Tryz.underlying25
  simp only [Option.isNone] at hnil
  go_enter Tryz.func36, Tryz.ntmps36
  go_wp2_with fail
  go_ret
  exact ⟨_, rfl, World.ownsRow_nil _ _ _ _, (fun k hk => by cases hk), Chg.refl _ _⟩
theorem NumSrc.of_row {w : World} {t : TypeId} {V : Value} {l : List Int} (h : w.ownsRow 0 t 1 V l.length (nums l)) : NumSrc w V l := by
  rcases h.2 with ⟨rfl, h0⟩ | ⟨g, cap, cur, rfl, hb, hh, h1, h2, h3, h4⟩
  · exact ⟨none, 0, by rw [h0], by omega, by simp [maxLen], fun h => by omega⟩
  · refine ⟨_, cap, rfl, h1, h2, fun _ => ⟨g, 0, rfl, fun j x hx => ?_⟩⟩
    have hj := (List.getElem?_eq_some_iff.1 hx).1
    rw [Nat.zero_add, cell_of_block hh j]
    have h5 : (nums l)[j]? = some (.int .i64 x) := by simp [nums, hx]
    rw [← h4, List.getElem?_take, if_pos (by omega), Array.getElem?_toList] at h5
    exact h5
theorem cloneL_any {w : World} {V : Value} {l : List Int} (h : NumSrc w V l) (hn : l.length ≤ 1048576) :
    Calls Tryz.prog 36 #[V] w fun e w' => ∃ v', e = .returned v' ∧ NumSrc w' v' l ∧ (∀ k, v'.ownBlock = some k → w.heap.size ≤ k) ∧ Chg (fun _ => False) w w' := by
  obtain ⟨A, c, rfl, h1, h2, h3⟩ := h
  have hcs : ∃ B, A = some B ∨ (A = none ∧ l = []) := by
    cases A with
    | some B => exact ⟨B, .inl rfl⟩
    | none =>
      refine ⟨⟨0, 0, none⟩, .inr ⟨rfl, ?_⟩⟩
      cases l with
      | nil => rfl
      | cons x l => obtain ⟨_, _, e, _⟩ := h3 (by simp); cases e
  obtain ⟨B, rfl | ⟨rfl, rfl⟩⟩ := hcs
  · refine (cloneL_some (cs := nums l) (fun j u hu => ?_) (by rw [nums_length]; omega) (fun u hu => by obtain ⟨x, _, rfl⟩ := List.mem_map.1 hu; rfl) hn).mono ?_
    · have hj : j < l.length := by have := (List.getElem?_eq_some_iff.1 hu).1; rwa [nums_length] at this
      obtain ⟨b, off, e, h4⟩ := h3 (by omega)
      injection e with e
      subst e
      have e1 : (⟨b, off, none⟩ : Addr).add j = ⟨b, off + j, none⟩ := by unfold Addr.add; split <;> simp_all
      rw [nums_get l j hj] at hu
      injection hu with hu
      rw [e1, ← hu]
      exact h4 j _ (List.getElem?_eq_getElem hj)
    · rintro e w' ⟨v', rfl, ho, hk, hc⟩
      exact ⟨v', rfl, NumSrc.of_row ho, hk, hc⟩
  · refine cloneL_nil.mono ?_
    rintro e w' ⟨v', rfl, ho, hk, hc⟩
    exact ⟨v', rfl, NumSrc.of_row (l := []) ho, hk, hc⟩
end Go.Proofs.YtahmnmpfjgddpaaGreatDoor
namespace Go.Proofs.YtahmnmpfjgddpaaGreatDoor
set_option linter.unusedVariables false
set_option linter.unusedSimpArgs false
open Go.RowKit

/-- a call of a function value, by its contract -/
theorem wp_callv {P : Program} {Q : Exit → Act → World → Prop} {o : Oper} {a : Act} {w : World} {K : Act → World → Prop} (f : FuncId) (fn : Func) (c : Code) (hf : P.funcs[f]? = some fn) (hb : fn.body = some c) (hname : (fn.name == "runtime.NumGoroutine") = false)
    (t : Operand) (xs : Array Operand) (ats : Array TypeId) (ho : o.op = .call { callee := .value t, args := xs, argTypes := ats }) (ht : a.eval t = .func (.func f) #[] #[]) (args : Array Value) (ha : xs.map a.eval = args)
    {R : Value → World → Prop} (hc : Calls P f args w (RetIs R)) (h : ∀ v w', R v w' → K (a.put o.dst v) w') : o.wp P a w K Q := by
  obtain ⟨dst, op, ty, pos, after, guard⟩ := o
  simp only at ho
  subst ho
  unfold Oper.wp
  have e0 : execOp a.eval { dst, op := .call { callee := .value t, args := xs, argTypes := ats }, type := ty, pos, after, guard } = callFunc f (#[] ++ xs.map a.eval ++ #[]) := by
    have h1 : execOp a.eval { dst, op := .call { callee := .value t, args := xs, argTypes := ats }, type := ty, pos, after, guard } = execOp a.eval { dst, op := .call { callee := .value (.func f), args := xs, argTypes := ats }, type := ty, pos, after, guard } := by
      have h2 : a.eval (.func f) = .func (.func f) #[] #[] := rfl
      simp only [execOp, resolve, ht, h2]
    rw [h1, execOp_call_go]
  rw [e0]
  have e : (#[] ++ xs.map a.eval ++ #[] : Array Value) = args := by simp [ha]
  rw [e, callFunc_enter hf hname hb]
  rw [Oper.upon_enter]
  refine hc.mono ?_
  intro e w' he
  cases e with
  | returned v => exact h v w' he
  | panicked _ => exact he.elim
  | outgrown => exact he.elim

/-- numbers are copied to the beginning of a row of noughts -/
theorem nums_over (n : Nat) (l : List Int) (h : l.length ≤ n) : over (madeCells #[.int .i64 0] n).toList 0 (nums l) = nums (l ++ List.replicate (n - l.length) 0) := by
  have hm : (madeCells #[.int .i64 0] n).toList = List.replicate n (Value.int .i64 0) := by
    apply List.ext_getElem?
    intro j
    rw [Array.getElem?_toList]
    by_cases hj : j < n
    · rw [List.getElem?_replicate, if_pos hj]
      simp [madeCells, hj, Nat.mod_one]
    · rw [List.getElem?_replicate, if_neg hj]
      simp [madeCells, hj]
  unfold over
  rw [hm, List.take_zero, List.nil_append, Nat.zero_add, nums_length, List.drop_replicate]
  simp [nums, List.map_append]
theorem FSt.new {w : World} {GA GB vs ar : Nat} (hA : w.ownsRow 0 2 1 (.slice (some ⟨GA, 0, none⟩) vs vs) vs (nums (List.replicate vs 0))) (hB : w.ownsRow 0 3 1 (.slice (some ⟨GB, 0, none⟩) ar ar) ar (nums (List.replicate ar (-1)))) (hne : GA ≠ GB) :
    FSt (w.alloc (.cells #[.slice (some ⟨GA, 0, none⟩) vs vs, .slice (some ⟨GB, 0, none⟩) ar ar, .slice none 0 0] 124)) w.heap.size (.slice (some ⟨GA, 0, none⟩) vs vs) (.slice (some ⟨GB, 0, none⟩) ar ar) (.slice none 0 0) (List.replicate vs 0) (List.replicate ar (-1)) [] := by
  have hc := (Chg.refl (fun _ => False) w).alloc (.cells #[.slice (some ⟨GA, 0, none⟩) vs vs, .slice (some ⟨GB, 0, none⟩) ar ar, .slice none 0 0] 124)
  have lA := ownsRow_lt hA GA rfl
  have lB := ownsRow_lt hB GB rfl
  refine ⟨heap_new _ _, ?_, ?_, World.ownsRow_nil _ _ _ _, fun e => ?_, fun e => ?_, (fun e => by cases e), fun k hk e => ?_, (fun k hk e => by cases e), (fun k hk e => by cases e)⟩
  · rw [List.length_replicate]; exact ownsRow_kept hA hc (fun _ _ x => x)
  · rw [List.length_replicate]; exact ownsRow_kept hB hc (fun _ _ x => x)
  · have e : some GA = some w.heap.size := e
    injection e with e
    omega
  · have e : some GB = some w.heap.size := e
    injection e with e
    omega
  · have hk : some GA = some k := hk
    have e : some GB = some k := e
    injection hk with hk
    injection e with e
    exact hne (hk.trans e.symm)
/-- what copying the arguments does -/
theorem FSt.args {w : World} {F GA vs : Nat} {VB : Value} {ar : List Int} (h : FSt w F (.slice (some ⟨GA, 0, none⟩) vs vs) VB (.slice none 0 0) (List.replicate vs 0) ar []) (hcells : w.heap[GA]? = some (.cells (madeCells #[.int .i64 0] vs) 2 (0, 0))) {V : Value} {l : List Int} (hl : NumSrc w V l) (hle : l.length ≤ vs) :
    ∃ w', (∀ ty, (Builtin.copy_ #[25, 25] ty #[.slice (some ⟨GA, 0, none⟩) vs vs, V]).run Tryz.prog w = .ok (goInt l.length) w') ∧ FSt w' F (.slice (some ⟨GA, 0, none⟩) vs vs) VB (.slice none 0 0) (l ++ List.replicate (vs - l.length) 0) ar [] ∧ Chg (fun k => k = GA) w w' := by
  obtain ⟨A, c, rfl, h1, h2, h3⟩ := hl
  have hGA := h.na
  have hlen : (l ++ List.replicate (vs - l.length) 0).length = vs := by rw [List.length_append, List.length_replicate]; omega
  cases hll : l with
  | nil =>
    subst hll
    refine ⟨w, fun ty => ?_, ?_, Chg.refl _ _⟩
    · cases A with
      | none => exact copy_nil w _ _ ty 2 _ vs vs c Tryz.underlying25 (by rw [sizeL]; rfl)
      | some ad =>
        have := copy_cells (P := Tryz.prog) w 25 25 ty 2 1 GA 0 vs vs ad 0 c (madeCells #[.int .i64 0] vs) 2 [] Tryz.underlying25 sizeL hcells (by simp) (by simp) (by simp) (by simp)
        rw [show over (madeCells #[.int .i64 0] vs).toList 0 [] = (madeCells #[.int .i64 0] vs).toList by simp [over], Array.toArray_toList, setRow_self w GA _ 2 (0, 0) hcells] at this
        simpa using this
    · have e : ([] : List Int) ++ List.replicate (vs - ([] : List Int).length) 0 = List.replicate vs 0 := by simp
      rw [e]; exact h
  | cons x t =>
    rw [← hll]
    obtain ⟨b, off, rfl, h4⟩ := h3 (by rw [hll]; simp)
    have hcp := fun ty => copy_cells (P := Tryz.prog) w 25 25 ty 2 1 GA 0 vs vs ⟨b, off, none⟩ l.length c (madeCells #[.int .i64 0] vs) 2 (nums l) Tryz.underlying25 sizeL hcells (by rw [nums_length, Nat.mul_one]; exact (Nat.min_eq_left hle).symm) (fun j v hj => by
      have hj1 : j < l.length := by have := (List.getElem?_eq_some_iff.1 hj).1; rwa [nums_length] at this
      rw [nums_get l j hj1] at hj
      injection hj with hj
      have e1 : (⟨b, off, none⟩ : Addr).add j = ⟨b, off + j, none⟩ := by unfold Addr.add; split <;> simp_all
      rw [← hj, e1]
      exact h4 j _ (List.getElem?_eq_getElem hj1)) (by rw [nums_length]; simp [made_size]; omega) (fun v hv => by obtain ⟨y, _, rfl⟩ := List.mem_map.1 hv; rfl)
    have hmin : Nat.min l.length vs = l.length := Nat.min_eq_left hle
    rw [hmin] at hcp
    rw [nums_over vs l hle] at hcp
    have hch : Chg (fun k => k = GA) w (w.setRow GA (nums (l ++ List.replicate (vs - l.length) 0)).toArray) := (Chg.refl (fun k => k = GA) w).setRow (fun _ => rfl) _
    refine ⟨_, hcp, ⟨hch.heap h.box (fun e => h.na (congrArg some e.symm)), ?_, ownsRow_kept h.vb hch (fun k hk e => h.ab k (congrArg some e.symm) hk), World.ownsRow_nil _ _ _ _, h.na, h.nb, (fun e => by cases e), h.ab, (fun k hk e => by cases e), (fun k hk e => by cases e)⟩, hch⟩
    rw [hlen]
    refine ⟨by rw [nums_length, hlen]; omega, .inr ⟨GA, vs, _, rfl, Nat.zero_le _, setRow_heap w GA _ _ 2 (0, 0) hcells, Nat.le_refl _, ?_, by rw [List.size_toArray, nums_length, hlen]; omega, ?_⟩⟩
    · have := h.va.2
      rw [List.length_replicate] at this
      rcases this with ⟨e, _⟩ | ⟨_, cap, _, e, _, _, _, hm, _⟩
      · cases e
      · injection e with _ _ e; omega
    · simp only [Nat.mul_one]
      exact List.take_of_length_le (by rw [nums_length, hlen]; exact Nat.le_refl _)
end Go.Proofs.YtahmnmpfjgddpaaGreatDoor
namespace Go.Proofs.YtahmnmpfjgddpaaGreatDoor
set_option linter.unusedVariables false
set_option linter.unusedSimpArgs false
open Go.RowKit

structure Mm (W0 w : World) (X : Nat → Prop) (m : Nat) (V : Value) (d : Nat) (g : GS) : Prop where
  mi : MIs W0 w X m V d g
  bel : Below W0.heap.size W0 w
  lx : ∀ k, X k → W0.heap.size ≤ k ∧ k < w.heap.size
structure GOk (g : GS) : Prop where
  n0 : 0 ≤ g.now
  nf : g.now ≤ g.fuel
  fm : g.fuel ≤ 1048576
  pr : (g.pr.length : Int) ≤ g.now
  ke : (g.ke.length : Int) ≤ g.now
  cl : (g.cl.length : Int) ≤ g.now
/-- g' is later than g -/
structure GLe (g g' : GS) : Prop where
  ok : GOk g'
  now : g.now ≤ g'.now
  fuel : g'.fuel = g.fuel
  q : g'.q = g.q
def MachP (W0 w : World) (X : Nat → Prop) (m : Nat) (V : Value) (d : Nat) (g : GS) (O : Int → Int → GS → Prop) (e : Ending) (w' : World) : Prop :=
  ∃ X' n err g', e = .returned (.tuple #[.int .i64 n, .int .i64 err]) ∧ Mm W0 w' X' m V d g' ∧ Chg X w w' ∧ (∀ k, X' k → X k ∨ w.heap.size ≤ k) ∧ O n err g' ∧ (err = 0 → GLe g g')
structure Ctx (W0 : World) (fs : List FnR) (V : Value) : Prop where
  code : CodeOk fs
  fns : FnsIs W0 V fs
  sorts : SortsIs W0
  lens : ∀ f ∈ fs, f.l.length ≤ 1048576
theorem Ctx.fn {W0 : World} {fs : List FnR} {V : Value} (h : Ctx W0 fs V) {k : Nat} (hk : k < fs.length) : fs.getD k noFn = fs[k] ∧ goodF fs fs[k] ∧ fs[k].l.length ≤ 1048576 :=
  ⟨by rw [List.getD_eq_getElem?_getD, List.getElem?_eq_getElem hk]; rfl, h.code.2.2 _ (List.getElem_mem hk), h.lens _ (List.getElem_mem hk)⟩
/-- what comes of a frame; with an error the number is nought -/
def Rand (fs : List FnR) (f : Fr) (d : Nat) (g : GS) (n err : Int) (g' : GS) : Prop := (err ≠ 0 → n = 0) ∧ Ran fs f d g n err g'
def CallO (fs : List FnR) (fn : Nat) (args : List Int) (d : Nat) (g : GS) (n err : Int) (g' : GS) : Prop :=
  (64 < d ∧ n = 0 ∧ err = 3 ∧ g' = g) ∨ (d ≤ 64 ∧ Rand fs (newFr fs fn args) (d + 1) g n err g')
/-- run's contract, where less than μ is left -/
def RunH (W0 : World) (fs : List FnR) (V : Value) (m : Nat) (μ : Nat) : Prop :=
  ∀ (w : World) (X : Nat → Prop) (d : Nat) (g : GS) (fn : Nat) (args : List Int) (VA : Value) (B : Option Addr) (c n : Nat), Mm W0 w X m V d g → GOk g → (g.fuel - g.now).toNat < μ → (hf : fn < fs.length) → 1 ≤ d → d ≤ 65 → NumSrc w VA args → (∀ k, VA.ownBlock = some k → ¬ X k) → (args.length : Int) = fs[fn].ps →
    n = fs[fn].l.length → Src W0 (.slice B n c) n (insCells fs[fn].l) →
    Calls Tryz.prog 40 #[.pointer (some ⟨m, 0, none⟩), .int .i64 fn, .slice B n c, .func (.func 35) #[] #[], VA] w (MachP W0 w X m V d g (fun n err g' => Rand fs (newFr fs fn args) d g n err g'))
def CallH (W0 : World) (fs : List FnR) (V : Value) (m : Nat) (μ : Nat) : Prop :=
  ∀ (w : World) (X : Nat → Prop) (d : Nat) (g : GS) (fn : Nat) (args : List Int) (VA : Value), Mm W0 w X m V d g → GOk g → (g.fuel - g.now).toNat < μ → (hf : fn < fs.length) → d ≤ 65 → NumSrc w VA args → (∀ k, VA.ownBlock = some k → ¬ X k) → (args.length : Int) = fs[fn].ps →
    Calls Tryz.prog 23 #[.pointer (some ⟨m, 0, none⟩), .int .i64 fn, VA] w (MachP W0 w X m V d g (fun n err g' => CallO fs fn args d g n err g'))

theorem NumSrc.keptX {w w' : World} {V : Value} {l : List Int} {T : Nat → Prop} (h : NumSrc w V l) (hc : Chg T w w') (hn : ∀ k, V.ownBlock = some k → ¬ T k) : NumSrc w' V l := by
  obtain ⟨A, c, rfl, h1, h2, h3⟩ := h
  refine ⟨A, c, rfl, h1, h2, fun h0 => ?_⟩
  obtain ⟨b, off, rfl, h4⟩ := h3 h0
  exact ⟨b, off, rfl, fun j x hx => hc.cell (h4 j x hx) (hn b rfl)⟩
theorem Mm.setd {W0 w : World} {X : Nat → Prop} {m : Nat} {V : Value} {d : Nat} {g : GS} (h : Mm W0 w X m V d g) (d' : Nat) : Mm W0 (w.setCell ⟨m, 6, none⟩ (.int .i64 d')) X m V d' g ∧ Chg (fun k => k = m) w (w.setCell ⟨m, 6, none⟩ (.int .i64 d')) ∧ X m := by
  obtain ⟨mt, hp, Sh, I0, I1, P, KV, CV, h1, h2⟩ := h.mi
  have hs := Chg.set_cell (w := w) ⟨m, 6, none⟩ (.int .i64 d')
  exact ⟨⟨⟨mt, hp, Sh, I0, I1, P, KV, CV, h1.setd d', h2⟩, h.bel.trans (hs.below (B := W0.heap.size) (fun k hk => by have hk : k = m := hk; rw [hk]; exact (h.lx m h2.m).1) h.bel.size), fun k hk => ⟨(h.lx k hk).1, Nat.lt_of_lt_of_le (h.lx k hk).2 hs.size⟩⟩, hs, h2.m⟩
theorem Mm.box {W0 w : World} {X : Nat → Prop} {m : Nat} {V : Value} {d : Nat} {g : GS} (h : Mm W0 w X m V d g) : w.cell? ⟨m, 2, none⟩ = some V ∧ w.cell? ⟨m, 5, none⟩ = some .nilIface ∧ w.cell? ⟨m, 6, none⟩ = some (.int .i64 d) ∧ w.frozen? ⟨m, 6, none⟩ = false := by
  obtain ⟨mt, hp, Sh, I0, I1, P, KV, CV, h1, h2⟩ := h.mi
  have c2 := cell_of_block h1.box 2
  have c5 := cell_of_block h1.box 5
  have c6 := cell_of_block h1.box 6
  simp at c2 c5 c6
  exact ⟨c2, c5, c6, frozen_of_block h1.box 6⟩

set_option maxHeartbeats 4000000 in
set_option maxRecDepth 100000 in
theorem call_of_run {W0 : World} {fs : List FnR} {V : Value} {m : Nat} {μ : Nat} (hC : Ctx W0 fs V) (hR : RunH W0 fs V m μ) : CallH W0 fs V m μ := by
  intro w X d g fn args VA hm hg hμ hf hd hA hAX hal
  obtain ⟨c2, c5, c6, f6⟩ := hm.box
  obtain ⟨b, off, cap, B, cB, e, hb, hcap, ⟨_, _, _, _, hL⟩, hsrc⟩ := (hC.fns.keep hm.bel).get fn hf
  subst e
  obtain ⟨_, _, _, B', cB', e', _, _, ⟨_, _, _, _, hL'⟩, hsrc'⟩ := hC.fns.get fn hf
  injection e' with e1 e2 e3
  injection e1 with e1
  injection e1 with e1a e1b
  subst e1a e1b e3
  have hL2 := hm.bel.cell (World.block_lt_of_cell? _ _ hL')
  rw [hL2, hL'] at hL
  injection hL with hL
  injection hL with hLa hLb hLc
  subst hLa hLc
  have hL : w.cell? ⟨b, off + fn * 5 + 4, none⟩ = some (.slice B' fs[fn].l.length cB') := by rw [hL2]; exact hL'
  obtain ⟨k, hk⟩ : ∃ k, k = fs.length := ⟨_, rfl⟩
  obtain ⟨n, hn⟩ : ∃ n, n = fs[fn].l.length := ⟨_, rfl⟩
  have hfk : fn < k := by omega
  rw [← hk] at c2 hcap
  rw [← hn] at hL
  have HMM := Lib.hid hm
  have HK := Lib.hid (And.intro hk hn)
  by_cases h64 : 64 < d
  · have hfin : CallO fs fn args d g 0 3 g := .inl ⟨h64, rfl, rfl, rfl⟩
    have HF := Lib.hid hfin
    clear hfin hL2 hsrc hsrc' hL' hk hn hm hR hC hA
    go_enter Tryz.func23, Tryz.ntmps23
    go_wp2_with fail
    go_ret2
    exact ⟨X, 0, 3, g, rfl, HMM.out, Chg.refl _ _, fun _ h => .inl h, HF.out, (fun h => by cases h)⟩
  · obtain ⟨hm1, hc1, hXm⟩ := hm.setd (d + 1)
    obtain ⟨w1, hw1⟩ : ∃ w1, w1 = w.setCell ⟨m, 6, none⟩ (.int .i64 ((d + 1 : Nat) : Int)) := ⟨_, rfl⟩
    rw [← hw1] at hm1 hc1
    have hVA : ∀ k, VA.ownBlock = some k → k ≠ m := fun k hk e => hAX k hk (by rw [e]; exact hXm)
    have CR := Lib.hid (hR w1 X (d + 1) g fn args VA B' cB' n hm1 hg hμ hf (by omega) (by omega) (hA.keptX hc1 hVA) hAX hal hn (by rw [hn]; exact hsrc'))
    have HC1 := Lib.hid hc1
    have hdc : ((d + 1 : Nat) : Int) = (d : Int) + 1 := by omega
    have HW1 := Lib.hid hw1
    have HXM := Lib.hid hXm
    clear hL2 hsrc hsrc' hL' hk hn hm hR hC hA hm1 hc1 hw1 hXm hVA
    go_enter Tryz.func23, Tryz.ntmps23
    go_wp2_with fail
    rw [show (w.setCell ⟨m, 6, none⟩ (.int .i64 ((d : Int) + 1))) = w1 by rw [HW1.out, hdc]]
    refine CR.out.mono ?_; rintro e w2 ⟨X2, n2, err2, g2, rfl, hm2, hc2, hg2, hO, hok⟩
    obtain ⟨_, _, d6, e6⟩ := hm2.box
    obtain ⟨hm3, hc3, hX2m⟩ := hm2.setd d
    have HF := Lib.hid (And.intro hm3 (And.intro hc3 (And.intro hc2 (And.intro hg2 (And.intro hO hok)))))
    rw [hdc] at d6
    clear hm2 hm3 hc3 hc2 hg2 hO hok CR c2 c5 c6 f6 hL
    go_wp2_with fail
    go_ret2
    refine ⟨X2, n2, err2, g2, rfl, HF.out.1, ?_, fun k hk => ?_, .inr ⟨by omega, HF.out.2.2.2.2.1⟩, HF.out.2.2.2.2.2⟩
    · refine (HC1.out.mono (T := X) (fun k _ e => by rw [e]; exact HXM.out)).then ?_
      refine HF.out.2.2.1.trans HF.out.2.1 (fun _ _ x => x) (fun k hk e => ?_)
      rw [e]; exact HXM.out
    · rcases HF.out.2.2.2.1 k hk with h | h
      · exact .inl h
      · exact .inr (Nat.le_trans HC1.out.size h)

/-! ### calls -/
theorem NumSrc.drop {w : World} {A : Option Addr} {c : Nat} {l : List Int} (h : NumSrc w (.slice A l.length c) l) (j : Nat) (hj : j ≤ l.length) : NumSrc w (.slice (if c = j then A else Option.map (fun x => x.add (j * 1)) A) (l.length - j) (c - j)) (l.drop j) := by
  obtain ⟨A', c', e, h1, h2, h3⟩ := h
  injection e with e1 e2 e3
  subst e1 e3
  refine ⟨_, _, by rw [List.length_drop], by rw [List.length_drop]; omega, by omega, fun h0 => ?_⟩
  rw [List.length_drop] at h0
  obtain ⟨b, off, rfl, h4⟩ := h3 (by omega)
  refine ⟨b, off + j, by rw [if_neg (by omega), Nat.mul_one, Option.map_some]; congr 1; unfold Addr.add; split <;> simp_all, fun i x hx => ?_⟩
  rw [List.getElem?_drop] at hx
  have := h4 (j + i) x hx
  rwa [show off + (j + i) = off + j + i by omega] at this
/-- what calls answers -/
def CallsP (W0 w : World) (X Y : Nat → Prop) (m : Nat) (V : Value) (d : Nat) (g : GS) (fs : List FnR) (F : Nat) (fn : Nat) (vars arrs stack : List Int) (p : Nat) (e : Ending) (w' : World) : Prop :=
  ∃ X' Y' n err g', e = .returned (.int .i64 err) ∧ Ms W0 w' X' Y' m V d g' F vars arrs (stack.take p ++ [n]) ∧ Gr w X Y w' X' Y' ∧ CallO fs fn (stack.drop p) d g n err g' ∧ (err = 0 → GLe g g')

set_option maxHeartbeats 4000000 in
set_option maxRecDepth 100000 in
theorem calls_any {W0 w : World} {fs : List FnR} {V : Value} {m : Nat} {μ : Nat} {X Y : Nat → Prop} {d : Nat} {g : GS} {F fn : Nat} {vars arrs stack : List Int} (hC : Ctx W0 fs V) (hH : CallH W0 fs V m μ) (h : Ms W0 w X Y m V d g F vars arrs stack) (hg : GOk g) (hμ : (g.fuel - g.now).toNat < μ)
    (hf : fn < fs.length) (hd : d ≤ 65) (p : Nat) (hp : (p : Int) = (stack.length : Int) - fs[fn].ps) (hps : 0 ≤ fs[fn].ps) (hl : stack.length ≤ 1048576) :
    Calls Tryz.prog 75 #[.pointer (some ⟨m, 0, none⟩), .pointer (some ⟨F, 0, none⟩), .int .i64 fn] w (CallsP W0 w X Y m V d g fs F fn vars arrs stack p) := by
  obtain ⟨c2, _, _, _⟩ := (⟨h.mi, h.bel, h.lx⟩ : Mm W0 w X m V d g).box
  obtain ⟨b, off, cap, B, cB, e, hb, hcap, ⟨_, hpc, _, _, _⟩, _⟩ := (hC.fns.keep h.bel).get fn hf
  subst e
  obtain ⟨VA, VB, VC, hs, hY1, hY2, hY3, hY4⟩ := h.fi
  obtain ⟨_, A, c, rfl⟩ := ownsRow_slice hs.vc
  have hvc := hs.vc
  have s2 := cell_of_block hs.box 2
  have f2 := frozen_of_block hs.box 2
  simp at s2
  obtain ⟨k, hk⟩ : ∃ k, k = fs.length := ⟨_, rfl⟩
  obtain ⟨ps, hpse⟩ : ∃ ps, ps = fs[fn].ps := ⟨_, rfl⟩
  obtain ⟨n, hn⟩ : ∃ n, n = stack.length := ⟨_, rfl⟩
  have hfk : fn < k := by omega
  have hcl := (ownsRow_cap hvc).1
  have hcm := (ownsRow_cap hvc).2
  have hns := NumSrc.of_row hvc
  rw [← hk] at c2 hcap
  rw [← hpse] at hpc hp hps
  have hpn : p ≤ n := by omega
  have hdr := hns.drop p (by omega)
  have CL := Lib.hid (fun (q : Nat) => cloneL_any (hdr.keptX ((Chg.refl (fun _ => False) w).drewN q) (fun _ _ x => x)) (by rw [List.length_drop]; omega))
  rw [← hn] at s2 hcl CL
  have hsub : (n : Int) - ps = (p : Int) := by omega
  have HM := Lib.hid h
  have HS := Lib.hid hs
  have HY := Lib.hid (And.intro hY1 (And.intro hY2 (And.intro hY3 hY4)))
  have HK := Lib.hid (And.intro hk (And.intro hpse hn))
  have hnl : n ≤ 1048576 := by omega
  have HAL : Hid (((stack.drop p).length : Int) = fs[fn].ps) := Lib.hid (by rw [List.length_drop, ← hpse]; omega)
  have hwp : IntKind.i64.wrap ((n : Int) - ps) = (p : Int) := by rw [hsub, IntKind.wrap_i64]; omega
  have hcm2 : c ≤ 9223372036854775807 := by simpa [maxLen] using hcm
  have HP := Lib.hid hp
  obtain ⟨T, hT⟩ : ∃ T, (if c = p then A else Option.map (fun x => x.add p) A) = T := ⟨_, rfl⟩
  rw [Nat.mul_one, hT] at CL
  clear h hs hY1 hY2 hY3 hY4 hvc hns hdr hk hpse hn hcm hp hps
  go_enter Tryz.func75, Tryz.ntmps75
  go_wp2_with fail
  go_quiet (fail)
  go_wp2_with fail
  refine (CL.out _).mono ?_; rintro e w1 ⟨v1, rfl, hn1, hv1, hc1⟩
  have hcw := Chg.of_drewN hc1
  obtain ⟨hm1, hg1⟩ := HM.out.still hcw
  have hs1 := HS.out.kept hcw (fun x => x) (fun _ _ x => x) (fun _ _ x => x) (fun _ _ x => x)
  have t2 := cell_of_block hs1.box 2
  have tf := frozen_of_block hs1.box 2
  simp at t2
  rw [← HK.out.2.2] at t2
  -- the stack is shorter
  obtain ⟨w2, hw2⟩ : ∃ w2, w2 = w1.setCell ⟨F, 2, none⟩ (.slice A p c) := ⟨_, rfl⟩
  have hset : Chg (fun k => k = F) w1 w2 := by rw [hw2]; exact Chg.set_cell ⟨F, 2, none⟩ _
  have htl : (stack.take p).length = p := by rw [List.length_take, ← HK.out.2.2]; omega
  have hvs : w1.ownsRow 0 2 1 (.slice A p c) (stack.take p).length (nums (stack.take p)) := by
    have h := ownsRow_short hs1.vc p (by rw [← HK.out.2.2]; exact hpn)
    rw [htl, show nums (stack.take p) = (nums stack).take p by simp [nums, List.map_take]]
    exact h
  have hnc : ∀ k, (Value.slice A p c).ownBlock = some k → k ≠ F := fun k hk e => hs1.nc (by rw [← e]; cases A with | none => cases hk | some a => exact hk)
  have hs2 : FSt w2 F VA VB (.slice A p c) vars arrs (stack.take p) := by
    refine ⟨by rw [hw2]; exact heap_set hs1.box 2 _, ownsRow_kept hs1.va hset (fun k hk e => hs1.na (by rw [hk, e])), ownsRow_kept hs1.vb hset (fun k hk e => hs1.nb (by rw [hk, e])), ownsRow_kept hvs hset (fun k hk e => hnc k hk e), hs1.na, hs1.nb, fun e => hnc F e rfl, hs1.ab, fun k hk e => hs1.ac k hk (by cases A with | none => cases e | some a => exact e), fun k hk e => hs1.bc k hk (by cases A with | none => cases e | some a => exact e)⟩
  have hf2 : FIs w2 (fun k => Y k ∨ w1.heap.size ≤ k) F vars arrs (stack.take p) := ⟨VA, VB, _, hs2, .inl HY.out.1, fun k hk => .inl (HY.out.2.1 k hk), fun k hk => .inl (HY.out.2.2.1 k hk), fun k hk => .inl (own_len HY.out.2.2.2 k hk)⟩
  obtain ⟨Y2, hm2, hg2⟩ := hm1.frame hf2 (hset.mono (fun k _ e => by rw [e]; exact HY.out.1))
  have HM2 := Lib.hid hm2
  have HG2 := Lib.hid (hg1.trans hg2)
  have hv1F : ∀ k, v1.ownBlock = some k → ¬ k = F := fun k hk e => by
    have h1 := hv1 k hk
    have h2 := (HM.out.ly F HY.out.1).2
    have h3 : (w.drewN nq).heap.size = w.heap.size := rfl
    omega
  have hv1X : ∀ k, v1.ownBlock = some k → ¬ X k := fun k hk e => by
    have h1 := hv1 k hk
    have h2 := (HM.out.lx k e).2
    have h3 : (w.drewN nq).heap.size = w.heap.size := rfl
    omega
  have hn2 := hn1.keptX hset hv1F
  have CC := Lib.hid (hH w2 X d g fn (stack.drop p) v1 ⟨hm2.mi, hm2.bel, hm2.lx⟩ hg hμ hf hd hn2 hv1X HAL.out)
  have HW2 := Lib.hid hw2
  clear hn1 hv1 hc1 hcw hm1 hg1 hs1 hset hvs hnc hs2 hf2 hm2 hg2 hv1F hv1X hn2 hw2 CL s2 c2 f2 hpc
  go_wp2_with fail
  rw [← HW2.out]
  refine CC.out.mono ?_; rintro e w3 ⟨X3, n3, err3, g3, rfl, hm3, hc3, hg3, hO, hok⟩
  obtain ⟨X4, hm4, hg4⟩ := HM2.out.mach (hm3.mi.mono (fun k hk _ => hg3 k hk)) hc3
  have CP := Lib.hid (push_any n3 hm4.fi (by rw [htl]; omega))
  have HM4 := Lib.hid hm4
  have HG4 := Lib.hid (And.intro (HG2.out.trans hg4) (And.intro hO hok))
  clear hm3 hc3 hg3 hO hok hm4 hg4 CC t2 tf
  go_wp2_with fail
  refine CP.out.mono ?_; rintro e w5 ⟨rfl, hf5, hc5⟩
  obtain ⟨Y5, hm5, hg5⟩ := HM4.out.frame hf5 hc5
  have HF := Lib.hid (And.intro hm5 (HG4.out.1.trans hg5))
  clear hf5 hc5 hm5 hg5 CP
  go_wp2_with fail
  go_ret
  exact ⟨X4, Y5, n3, err3, g3, rfl, HF.out.1, HF.out.2, HG4.out.2.1, HG4.out.2.2⟩
end Go.Proofs.YtahmnmpfjgddpaaGreatDoor
namespace Go.Proofs.YtahmnmpfjgddpaaGreatDoor
set_option linter.unusedVariables false
set_option linter.unusedSimpArgs false
open Go.RowKit

set_option maxHeartbeats 4000000 in
set_option maxRecDepth 100000 in
theorem does_call {W0 w : World} {X Y : Nat → Prop} {m : Nat} {V : Value} {d : Nat} {g : GS} {F : Nat} {f : Fr} (h : Ms W0 w X Y m V d g F f.vars f.arrs f.stack) {fs : List FnR} {μ : Nat} (hC : Ctx W0 fs V) (hH : CallH W0 fs V m μ) (hg : GOk g) (hμ : (g.fuel - g.now).toNat < μ) (fn' : Nat) (nn : Int) (hf : fn' < fs.length) (hd : d ≤ 65) (p : Nat) (hp : (p : Int) = (f.stack.length : Int) - fs[fn'].ps) (hps : 0 ≤ fs[fn'].ps) (hl : f.stack.length ≤ 1048576) :
    Calls Tryz.prog 61 #[.pointer (some ⟨m, 0, none⟩), .pointer (some ⟨F, 0, none⟩), .agg #[.int .i64 17, .int .i64 (fn' : Int), .int .i64 nn]] w (CallsP W0 w X Y m V d g fs F fn' f.vars f.arrs f.stack p) := by
  obtain ⟨fn, at_, vars, arrs, stack⟩ := f
  simp only at h hp hl
  obtain ⟨w0, hw0⟩ : ∃ w0, w0 = w.alloc (.cells #[.int .i64 17, .int .i64 (fn' : Int), .int .i64 nn] 42) := ⟨_, rfl⟩
  obtain ⟨P0, hP0⟩ : ∃ P0, P0 = w.heap.size := ⟨_, rfl⟩
  have hc0 : Chg (fun _ => False) w w0 := by rw [hw0]; exact (Chg.refl _ _).alloc _
  have hi0 : w0.heap[P0]? = some (.cells #[.int .i64 17, .int .i64 (fn' : Int), .int .i64 nn] 42 (0, 0)) := by rw [hw0]; exact heap_new' hP0.symm
  obtain ⟨hm0, hg0⟩ := h.still hc0
  have HM0 := Lib.hid hm0
  have HG0 := Lib.hid hg0
  have HI0 := Lib.hid hi0
  have HWE := Lib.hid (And.intro hw0 hP0)
  have HPN : Hid (¬ X P0 ∧ ¬ Y P0) := Lib.hid ⟨fun e => by have := (h.lx _ e).2; omega, fun e => by have := (h.ly _ e).2; omega⟩
  have i0 := cell_of_block hi0 0
  have i1 := cell_of_block hi0 1
  have i2 := cell_of_block hi0 2
  simp at i0 i1 i2
  have CA := Lib.hid (calls_any hC hH hm0 hg hμ hf hd p hp hps hl)
  clear h hw0 hP0 hc0 hi0 hm0 hg0
  go_enter Tryz.func61, Tryz.ntmps61
  go_upto_region 1 with fail
  rw [← HWE.out.1, ← HWE.out.2]
  clear hp hps hl hμ hg hH hC
  go_wp2_with fail
  refine CA.out.mono ?_; rintro e w1 ⟨X1, Y1, n1, e1, g1, rfl, hm1, hg1, hO, hok⟩
  have HF := Lib.hid (And.intro hm1 (And.intro (HG0.out.trans hg1) (And.intro hO hok)))
  clear hm1 hg1 hO hok CA i0 i1 i2
  go_wp2_with fail
  go_ret
  exact ⟨X1, Y1, n1, e1, g1, rfl, HF.out⟩

/-! ### run begins -/
/-- what stands behind the frame's making -/
structure Begun (w wx : World) (F GA : Nat) (VB : Value) (vs ar : Nat) : Prop where
  st : FSt wx F (.slice (some ⟨GA, 0, none⟩) vs vs) VB (.slice none 0 0) (List.replicate vs 0) (List.replicate ar (-1)) []
  made : wx.heap[GA]? = some (.cells (madeCells #[.int .i64 0] vs) 2 (0, 0))
  nf : w.heap.size ≤ F
  na : w.heap.size ≤ GA
  nb : ∀ k, VB.ownBlock = some k → w.heap.size ≤ k
  chg : Chg (fun _ => False) w wx
theorem made_row {w : World} {GA vs : Nat} (h : w.heap[GA]? = some (.cells (madeCells #[.int .i64 0] vs) 2 (0, 0))) (hv : vs ≤ 64) : w.ownsRow 0 2 1 (.slice (some ⟨GA, 0, none⟩) vs vs) vs (nums (List.replicate vs 0)) := by
  refine ⟨by simp [nums], .inr ⟨GA, vs, _, rfl, Nat.zero_le _, h, Nat.le_refl _, by unfold maxLen; omega, by rw [made_size]; omega, ?_⟩⟩
  have := nums_over vs [] (by simp)
  simp only [nums, List.map_nil, over, List.take_zero, List.nil_append, List.length_nil, Nat.sub_zero, List.drop_zero] at this
  rw [Nat.mul_one, List.take_of_length_le (by simp [made_size])]
  simpa [nums] using this
end Go.Proofs.YtahmnmpfjgddpaaGreatDoor
namespace Go.Proofs.YtahmnmpfjgddpaaGreatDoor
set_option linter.unusedVariables false
set_option linter.unusedSimpArgs false
open Go.RowKit

theorem wrap_id {x : Int} (h : -9223372036854775808 ≤ x ∧ x ≤ 9223372036854775807) : wrap64 x = x := by unfold wrap64; omega

/-- what stands at a place -/
structure At (fs : List FnR) (f : FnR) (p n : Nat) (i : InsR) : Prop where
  lt : p < f.l.length
  ins : f.l[p]? = some i
  get : f.l.getD p noIns = i
  ok : opOk fs.length f i = true
  takes : takesAt fs i ≤ (n : Int) ∧ 0 ≤ takesAt fs i
  call : i.op = 17 → (1 ≤ i.a ∧ i.a < (fs.length : Int)) ∧ takesAt fs i = (fs.getD i.a.toNat noFn).ps
  plain : i.op ≠ 17 → takesAt fs i = takesv i.op
  succ : ∀ q ∈ succs i (p : Int), 0 ≤ q ∧ depthsOf fs f q = some ((n : Int) - takesAt fs i + leavesv i.op)
theorem at_of {fs : List FnR} {f : FnR} (hfs : CodeOk fs) (hf : goodF fs f) {p n : Nat} (hd : depthsOf fs f (p : Int) = some (n : Int)) (hn : n ≤ 1048576) : At fs f p n (f.l.getD p noIns) := by
  have hW := depths_ok hf.2
  obtain ⟨hr, hok, hsu⟩ := hW.2 _ _ hd
  have hp : p < f.l.length := by omega
  have hi : insAt f (p : Int) = f.l.getD p noIns := by unfold insAt; rw [Int.toNat_natCast]
  rw [hi] at hok hsu
  obtain ⟨i, hie⟩ : ∃ i, f.l.getD p noIns = i := ⟨_, rfl⟩
  have hins : f.l[p]? = some i := by rw [← hie, List.getD_eq_getElem?_getD, List.getElem?_eq_getElem hp]; rfl
  rw [hie] at hok hsu ⊢
  unfold okAt at hok
  rw [Bool.and_eq_true, decide_eq_true_eq] at hok
  have hkn := opOk_known hok.1
  have hts := takes_small hkn
  have hls := leaves_small hkn
  have h17 : i.op = 17 → (1 ≤ i.a ∧ i.a < (fs.length : Int)) ∧ takesAt fs i = (fs.getD i.a.toNat noFn).ps ∧ 0 ≤ takesAt fs i ∧ takesAt fs i ≤ 8 := fun h => by
    have h1 := hok.1
    unfold opOk at h1
    simp [h] at h1
    have e : takesAt fs i = (fs.getD i.a.toNat noFn).ps := by unfold takesAt; rw [if_pos h]
    have hk : i.a.toNat < fs.length := by omega
    have hg := (hfs.2.2 _ (List.getElem_mem hk)).1.1
    have e2 : fs.getD i.a.toNat noFn = fs[i.a.toNat] := by rw [List.getD_eq_getElem?_getD, List.getElem?_eq_getElem hk]; rfl
    refine ⟨h1, e, ?_⟩
    rw [e, e2]
    omega
  have hpl : i.op ≠ 17 → takesAt fs i = takesv i.op := fun h => by unfold takesAt; rw [if_neg h]
  have htb : 0 ≤ takesAt fs i ∧ takesAt fs i ≤ 8 := by
    by_cases h : i.op = 17
    · exact (h17 h).2.2
    · rw [hpl h]; omega
  have hw : wrap64 ((n : Int) - takesAt fs i) = (n : Int) - takesAt fs i := wrap_id (by omega)
  rw [hw] at hok
  refine ⟨hp, hins, hie, hok.1, ⟨by omega, htb.1⟩, fun h => ⟨(h17 h).1, (h17 h).2.1⟩, hpl, fun q hq => ?_⟩
  have h1 := hsu q hq
  unfold behind at h1
  rw [hw, wrap_id (by omega)] at h1
  exact ⟨(hW.range _ _ h1).1, h1⟩

/-! ### steps -/
def To (fs : List FnR) (f : Fr) (d : Nat) (g : GS) (T : List Fr → Conf) : Prop := ∃ k, ∀ rest : List Fr, rest.length + 1 = d → iter fs k (.run (f :: rest) g) = T rest
theorem To.refl (fs : List FnR) (f : Fr) (d : Nat) (g : GS) : To fs f d g (fun rest => .run (f :: rest) g) := ⟨0, fun _ _ => rfl⟩
theorem To.trans {fs : List FnR} {f f2 : Fr} {d : Nat} {g g2 : GS} {T : List Fr → Conf} (h : To fs f d g (fun rest => .run (f2 :: rest) g2)) (h2 : To fs f2 d g2 T) : To fs f d g T := by
  obtain ⟨k, hk⟩ := h
  obtain ⟨j, hj⟩ := h2
  exact ⟨k + j, fun rest hr => by rw [iter_add, hk rest hr]; exact hj rest hr⟩
theorem To.one {fs : List FnR} {f : Fr} {d : Nat} {g : GS} {T : List Fr → Conf} (h : ∀ rest : List Fr, rest.length + 1 = d → step fs (.run (f :: rest) g) = T rest) : To fs f d g T := ⟨1, h⟩
def paid (g : GS) (i : InsR) : GS := { g with now := g.now + costv i.op }
theorem to_over {fs : List FnR} {f : Fr} {d : Nat} {g : GS} {i : InsR} (hi : curI fs f = i) (h : (paid g i).fuel < (paid g i).now) : To fs f d g (fun rest => outC 0 8 rest (paid g i)) := To.one fun rest hr => by
  subst hi
  unfold paid at h ⊢
  simp only [step]
  rw [if_pos h]
  rfl
theorem to_ret {fs : List FnR} {f : Fr} {d : Nat} {g : GS} {i : InsR} (hi : curI fs f = i) (h : ¬ (paid g i).fuel < (paid g i).now) (ho : i.op = 18) : To fs f d g (fun rest => outC (top f.stack) 0 rest (paid g i)) := To.one fun rest hr => by
  subst hi
  unfold paid at h ⊢
  simp only [step]
  rw [if_neg h, if_pos ho]
  rfl
theorem to_jz {fs : List FnR} {f : Fr} {d : Nat} {g : GS} {i : InsR} (hi : curI fs f = i) (h : ¬ (paid g i).fuel < (paid g i).now) (ho : i.op = 16) (ht : top f.stack = 0) : To fs f d g (fun rest => .run (⟨f.fn, i.a.toNat, f.vars, f.arrs, f.stack.dropLast⟩ :: rest) (paid g i)) := To.one fun rest hr => by
  subst hi
  unfold paid at h ⊢
  simp only [step]
  rw [if_neg h, if_neg (by omega), if_pos ho, if_pos ht]
theorem to_jn {fs : List FnR} {f : Fr} {d : Nat} {g : GS} {i : InsR} (hi : curI fs f = i) (h : ¬ (paid g i).fuel < (paid g i).now) (ho : i.op = 16) (ht : ¬ top f.stack = 0) : To fs f d g (fun rest => .run (⟨f.fn, f.at_ + 1, f.vars, f.arrs, f.stack.dropLast⟩ :: rest) (paid g i)) := To.one fun rest hr => by
  subst hi
  unfold paid at h ⊢
  simp only [step]
  rw [if_neg h, if_neg (by omega), if_pos ho, if_neg ht]
theorem to_jmp {fs : List FnR} {f : Fr} {d : Nat} {g : GS} {i : InsR} (hi : curI fs f = i) (h : ¬ (paid g i).fuel < (paid g i).now) (ho : i.op = 15) : To fs f d g (fun rest => .run (⟨f.fn, i.a.toNat, f.vars, f.arrs, f.stack⟩ :: rest) (paid g i)) := To.one fun rest hr => by
  subst hi
  unfold paid at h ⊢
  simp only [step]
  rw [if_neg h, if_neg (by omega), if_neg (by omega), if_pos ho]
theorem to_does {fs : List FnR} {f : Fr} {d : Nat} {g : GS} {i : InsR} (hi : curI fs f = i) (h : ¬ (paid g i).fuel < (paid g i).now) (hnc : i.op ≠ 15 ∧ i.op ≠ 16 ∧ i.op ≠ 17 ∧ i.op ≠ 18) :
    To fs f d g (fun rest => if (doesv i { f with at_ := f.at_ + 1 } (paid g i)).1 = 0 then .run ((doesv i { f with at_ := f.at_ + 1 } (paid g i)).2.1 :: rest) (doesv i { f with at_ := f.at_ + 1 } (paid g i)).2.2 else outC 0 (doesv i { f with at_ := f.at_ + 1 } (paid g i)).1 rest (doesv i { f with at_ := f.at_ + 1 } (paid g i)).2.2) := To.one fun rest hr => by
  subst hi
  unfold paid at h ⊢
  simp only [step]
  rw [if_neg h, if_neg (by omega), if_neg (by omega), if_neg (by omega), if_neg (by omega)]
  split
  · rfl
  · rename_i hne
    unfold outC
    rw [if_neg hne]
theorem to_call {fs : List FnR} {f : Fr} {d : Nat} {g : GS} {i : InsR} (hi : curI fs f = i) (h : ¬ (paid g i).fuel < (paid g i).now) (ho : i.op = 17) {n err : Int} {g2 : GS} (hc : CallO fs i.a.toNat (f.stack.drop (f.stack.length - parsOf fs i.a)) d (paid g i) n err g2) :
    To fs f d g (fun rest => if err = 0 then .run (⟨f.fn, f.at_ + 1, f.vars, f.arrs, f.stack.take (f.stack.length - parsOf fs i.a) ++ [n]⟩ :: rest) g2 else outC 0 err rest g2) := by
  subst hi
  rcases hc with ⟨h64, rfl, rfl, rfl⟩ | ⟨h64, _, k, hk⟩
  · refine To.one fun rest hr => ?_
    unfold paid at h ⊢
    simp only [step]
    rw [if_neg h, if_neg (by omega), if_neg (by omega), if_neg (by omega), if_pos ho, if_pos (by omega)]
    rfl
  · refine ⟨1 + k, fun rest hr => ?_⟩
    rw [iter_add]
    have e : iter fs 1 (.run (f :: rest) g) = .run (newFr fs (curI fs f).a.toNat (f.stack.drop (f.stack.length - parsOf fs (curI fs f).a)) :: { f with at_ := f.at_ + 1, stack := f.stack.take (f.stack.length - parsOf fs (curI fs f).a) } :: rest) (paid g (curI fs f)) := by
      show step fs (.run (f :: rest) g) = _
      unfold paid at h ⊢
      simp only [step]
      rw [if_neg h, if_neg (by omega), if_neg (by omega), if_neg (by omega), if_pos ho, if_neg (by omega)]
    rw [e, hk _ (by simp; omega)]
    unfold outC
    split
    · rfl
    · rfl

/-! ### what does leaves -/
theorem leaves_one {op : Int} (h : 4 ≤ op ∧ op ≤ 14) : leavesv op = 1 := by
  have h : op = 4 ∨ op = 5 ∨ op = 6 ∨ op = 7 ∨ op = 8 ∨ op = 9 ∨ op = 10 ∨ op = 11 ∨ op = 12 ∨ op = 13 ∨ op = 14 := by omega
  rcases h with rfl | rfl | rfl | rfl | rfl | rfl | rfl | rfl | rfl | rfl | rfl <;> rfl
structure Kept (f f' : Fr) (g g' : GS) : Prop where
  fn : f'.fn = f.fn
  at_ : f'.at_ = f.at_
  vars : f'.vars.length = f.vars.length
  arrs : f'.arrs.length = f.arrs.length
  now : g'.now = g.now
  fuel : g'.fuel = g.fuel
  q : g'.q = g.q
  pr : g'.pr.length ≤ g.pr.length + 1
  ke : g'.ke.length ≤ g.ke.length + 1
  cl : g'.cl.length ≤ g.cl.length + 1
def KeptR (f : Fr) (g : GS) (r : Int × Fr × GS) : Prop := Kept f r.2.1 g r.2.2
theorem kept_ite {f : Fr} {g : GS} {c : Prop} [Decidable c] {a b : Int × Fr × GS} (h1 : KeptR f g a) (h2 : KeptR f g b) : KeptR f g (if c then a else b) := by split <;> assumption
theorem kept_opt {f : Fr} {g : GS} {o : Option Int} {a : Int → Int × Fr × GS} {b : Int × Fr × GS} (h1 : ∀ n, KeptR f g (a n)) (h2 : KeptR f g b) : KeptR f g (match o with | some n => a n | none => b) := by cases o with | none => exact h2 | some n => exact h1 n
theorem doesv_kept (i : InsR) (f : Fr) (g : GS) : Kept f (doesv i f g).2.1 g (doesv i f g).2.2 := by
  show KeptR f g (doesv i f g)
  unfold doesv
  repeat' first
    | refine kept_ite ?_ ?_
    | refine kept_opt (fun n => ?_) ?_
  all_goals first | exact ⟨rfl, rfl, rfl, rfl, rfl, rfl, rfl, Nat.le_succ _, Nat.le_succ _, Nat.le_succ _⟩ | (constructor <;> simp)
theorem doesv_len {i : InsR} {f : Fr} {g : GS} (hk : 1 ≤ i.op ∧ i.op ≤ 25) (hnc : i.op ≠ 15 ∧ i.op ≠ 16 ∧ i.op ≠ 17 ∧ i.op ≠ 18) (ht : takesv i.op ≤ (f.stack.length : Int)) (h0 : (doesv i f g).1 = 0) : ((doesv i f g).2.1.stack.length : Int) = (f.stack.length : Int) - takesv i.op + leavesv i.op := by
  obtain ⟨op, a, z⟩ := i
  simp only at hk hnc ht h0 ⊢
  have hcs : op = 1 ∨ op = 2 ∨ op = 3 ∨ (op = 4 ∨ op = 5) ∨ (6 ≤ op ∧ op ≤ 14) ∨ op = 19 ∨ op = 20 ∨ op = 21 ∨ op = 22 ∨ op = 23 ∨ op = 24 ∨ op = 25 := by omega
  rcases hcs with rfl | rfl | rfl | ho | ho | rfl | rfl | rfl | rfl | rfl | rfl | rfl
  · show ((f.stack ++ [z]).length : Int) = (f.stack.length : Int) - 0 + 1; simp
  · show ((f.stack ++ [_]).length : Int) = (f.stack.length : Int) - 0 + 1; simp
  · have ht : (1 : Int) ≤ (f.stack.length : Int) := ht
    show ((f.stack.dropLast).length : Int) = (f.stack.length : Int) - 1 + 0
    rw [List.length_dropLast]; omega
  · have e1 : takesv op = 1 := by rcases ho with rfl | rfl <;> rfl
    rw [e1] at ht ⊢
    rw [leaves_one (by omega)]
    obtain ⟨s, x, e⟩ := snoc_of (l := f.stack) (by omega)
    have hd := doesv_op1 op a z f g s x e ho
    rw [hd] at h0 ⊢
    split at h0
    · rename_i hb
      rw [if_pos hb]
      rw [e]
      simp
    · cases h0
  · rw [takes_two ho] at ht ⊢
    rw [leaves_one (by omega)]
    obtain ⟨s, x, y, e⟩ := snoc2_of (l := f.stack) (by omega)
    have hd := doesv_op2 op a z f g s x y e ho
    rw [hd] at h0 ⊢
    split at h0
    · rename_i hb
      rw [if_pos hb]
      rw [e]
      simp
    · cases h0
  · have ht : (1 : Int) ≤ (f.stack.length : Int) := ht
    show ((f.stack.dropLast).length : Int) = (f.stack.length : Int) - 1 + 0
    rw [List.length_dropLast]; omega
  · have ht : (1 : Int) ≤ (f.stack.length : Int) := ht
    show ((f.stack.dropLast).length : Int) = (f.stack.length : Int) - 1 + 0
    rw [List.length_dropLast]; omega
  · have e : (doesv ⟨21, a, z⟩ f g).2.1.stack = f.stack := by unfold doesv; simp; split <;> rfl
    rw [e]
    show (f.stack.length : Int) = (f.stack.length : Int) - 0 + 0
    omega
  · show ((f.stack).length : Int) = (f.stack.length : Int) - 0 + 0
    omega
  · have ht : (1 : Int) ≤ (f.stack.length : Int) := ht
    have hd : doesv ⟨23, a, z⟩ f g = (match cellv g.xss (f.arrs.getD a.toNat 0) (top f.stack) with
      | some n => (0, { f with stack := f.stack.dropLast ++ [n] }, g)
      | none => (7, f, g)) := rfl
    rw [hd] at h0 ⊢
    cases hcv : cellv g.xss (f.arrs.getD a.toNat 0) (top f.stack) with
    | none => rw [hcv] at h0; cases h0
    | some n =>
      show ((f.stack.dropLast ++ [n]).length : Int) = (f.stack.length : Int) - 1 + 1
      simp
      omega
  · have ht : (2 : Int) ≤ (f.stack.length : Int) := ht
    have hd : doesv ⟨24, a, z⟩ f g = (match cellv g.xss (f.arrs.getD a.toNat 0) (top f.stack.dropLast) with
      | some _ => (0, { f with stack := f.stack.dropLast.dropLast }, { g with xss := setv g.xss (f.arrs.getD a.toNat 0) (top f.stack.dropLast) (top f.stack) })
      | none => (7, f, g)) := rfl
    rw [hd] at h0 ⊢
    cases hcv : cellv g.xss (f.arrs.getD a.toNat 0) (top f.stack.dropLast) with
    | none => rw [hcv] at h0; cases h0
    | some n =>
      show ((f.stack.dropLast.dropLast).length : Int) = (f.stack.length : Int) - 2 + 0
      simp
      omega
  · show ((f.stack ++ [_]).length : Int) = (f.stack.length : Int) - 0 + 1; simp

/-! ### the rounds' relation -/
structure RInv (fs : List FnR) (fn : Nat) (f : FnR) (args : List Int) (d : Nat) (g : GS) (p : Nat) (vars arrs stack : List Int) (g' : GS) : Prop where
  dep : depthsOf fs f (p : Int) = some (stack.length : Int)
  vl : (vars.length : Int) = f.vs
  al : (arrs.length : Int) = f.ar
  ok : GLe g g'
  sl : (stack.length : Int) ≤ g'.now
  run : To fs (newFr fs fn args) d g (fun rest => .run (⟨fn, p, vars, arrs, stack⟩ :: rest) g')
variable {fs : List FnR} {fn : Nat} {f : FnR} {args : List Int} {d : Nat} {g : GS} {p : Nat} {vars arrs stack : List Int} {g' : GS}
theorem RInv.at (h : RInv fs fn f args d g p vars arrs stack g') (hfs : CodeOk fs) (hf : goodF fs f) : At fs f p stack.length (f.l.getD p noIns) := at_of hfs hf h.dep (by have := h.sl; have := h.ok.ok.nf; have := h.ok.ok.fm; omega)
theorem RInv.cur (h : RInv fs fn f args d g p vars arrs stack g') (hfn : fs.getD fn noFn = f) {i : InsR} (hi : f.l.getD p noIns = i) : curI fs ⟨fn, p, vars, arrs, stack⟩ = i := by unfold curI; simp only; rw [hfn, hi]
theorem gle_paid (h : GLe g g') {i : InsR} (hk : 1 ≤ i.op ∧ i.op ≤ 25) (hn : ¬ (paid g' i).fuel < (paid g' i).now) : GLe g (paid g' i) ∧ (paid g' i).now > g'.now ∧ ((paid g' i).fuel - (paid g' i).now).toNat < (g'.fuel - g'.now).toNat ∧ (g'.now < (paid g' i).now) := by
  have hc := cost_small hk
  have hnow : (paid g' i).now = g'.now + costv i.op := rfl
  have hfu : (paid g' i).fuel = g'.fuel := rfl
  have o := h.ok
  have o1 := o.n0
  have o2 := o.nf
  have o3 := o.fm
  have o4 := h.now
  have o5 := h.fuel
  refine ⟨⟨⟨by omega, by omega, by rw [hfu]; exact o3, ?_, ?_, ?_⟩, by omega, h.fuel, h.q⟩, by omega, by omega, by omega⟩
  · have : ((paid g' i).pr.length : Int) ≤ g'.now := o.pr; omega
  · have : ((paid g' i).ke.length : Int) ≤ g'.now := o.ke; omega
  · have : ((paid g' i).cl.length : Int) ≤ g'.now := o.cl; omega
theorem gle_does (h : GLe g g') {i : InsR} (hk : 1 ≤ i.op ∧ i.op ≤ 25) (hn : ¬ (paid g' i).fuel < (paid g' i).now) (fr : Fr) : GLe g (doesv i fr (paid g' i)).2.2 := by
  have k := doesv_kept i fr (paid g' i)
  obtain ⟨h1, h2, _, h3⟩ := gle_paid h hk hn
  have o := h1.ok
  have e1 : ((paid g' i).pr.length : Int) ≤ g'.now := h.ok.pr
  have e2 : ((paid g' i).ke.length : Int) ≤ g'.now := h.ok.ke
  have e3 : ((paid g' i).cl.length : Int) ≤ g'.now := h.ok.cl
  have k1 := k.pr
  have k2 := k.ke
  have k3 := k.cl
  refine ⟨⟨?_, ?_, ?_, ?_, ?_, ?_⟩, ?_, ?_, ?_⟩
  · rw [k.now]; exact o.n0
  · rw [k.now, k.fuel]; exact o.nf
  · rw [k.fuel]; exact o.fm
  · rw [k.now]; omega
  · rw [k.now]; omega
  · rw [k.now]; omega
  · rw [k.now]; exact h1.now
  · rw [k.fuel]; exact h1.fuel
  · rw [k.q]; exact h1.q
theorem GLe.trans {a b c : GS} (h : GLe a b) (k : GLe b c) : GLe a c := ⟨k.ok, Int.le_trans h.now k.now, k.fuel.trans h.fuel, k.q.trans h.q⟩
theorem RInv.next (h : RInv fs fn f args d g p vars arrs stack g') {i : InsR} (hA : At fs f p stack.length i) {p2 : Nat} {vars2 arrs2 stack2 : List Int} {g2 : GS} (hto : To fs ⟨fn, p, vars, arrs, stack⟩ d g' (fun rest => .run (⟨fn, p2, vars2, arrs2, stack2⟩ :: rest) g2))
    (hq : (p2 : Int) ∈ succs i (p : Int)) (hl : (stack2.length : Int) = (stack.length : Int) - takesAt fs i + leavesv i.op) (hv : vars2.length = vars.length) (ha : arrs2.length = arrs.length) (hg : GLe g g2) (hn : g'.now < g2.now) : RInv fs fn f args d g p2 vars2 arrs2 stack2 g2 := by
  have hls := leaves_small (opOk_known hA.ok)
  have hsl := h.sl
  have ht := hA.takes
  exact ⟨by rw [hl]; exact (hA.succ _ hq).2, by rw [hv]; exact h.vl, by rw [ha]; exact h.al, hg, by omega, h.run.trans hto⟩
theorem RInv.jmp (h : RInv fs fn f args d g p vars arrs stack g') (hfn : fs.getD fn noFn = f) {i : InsR} (hA : At fs f p stack.length i) (hn : ¬ (paid g' i).fuel < (paid g' i).now) (ho : i.op = 15) : RInv fs fn f args d g i.a.toNat vars arrs stack (paid g' i) ∧ ((i.a.toNat : Nat) : Int) = i.a := by
  obtain ⟨h1, _, _, h2⟩ := gle_paid h.ok (opOk_known hA.ok) hn
  have hs : i.a ∈ succs i (p : Int) := by unfold succs; rw [if_neg (by omega), if_pos ho]; simp
  have e := (hA.succ _ hs).1
  have e2 : ((i.a.toNat : Nat) : Int) = i.a := by omega
  refine ⟨h.next hA (to_jmp (h.cur hfn hA.get) hn ho) (by rw [e2]; exact hs) ?_ rfl rfl h1 h2, e2⟩
  rw [hA.plain (by omega), ho]
  show _ = (stack.length : Int) - 0 + 0
  omega
theorem RInv.jz (h : RInv fs fn f args d g p vars arrs stack g') (hfn : fs.getD fn noFn = f) {i : InsR} (hA : At fs f p stack.length i) (hn : ¬ (paid g' i).fuel < (paid g' i).now) (ho : i.op = 16) {s : List Int} (hst : stack = s ++ [0]) : RInv fs fn f args d g i.a.toNat vars arrs s (paid g' i) ∧ ((i.a.toNat : Nat) : Int) = i.a := by
  subst hst
  obtain ⟨h1, _, _, h2⟩ := gle_paid h.ok (opOk_known hA.ok) hn
  have hs : i.a ∈ succs i (p : Int) := by unfold succs; rw [if_neg (by omega), if_neg (by omega), if_pos ho]; simp
  have e := (hA.succ _ hs).1
  have e2 : ((i.a.toNat : Nat) : Int) = i.a := by omega
  have hto := to_jz (d := d) (h.cur hfn hA.get) hn ho (top_snoc s 0)
  simp only [List.dropLast_concat] at hto
  refine ⟨h.next hA hto (by rw [e2]; exact hs) ?_ rfl rfl h1 h2, e2⟩
  rw [hA.plain (by omega), ho]
  show _ = ((s ++ [0]).length : Int) - 1 + 0
  simp
theorem RInv.jn (h : RInv fs fn f args d g p vars arrs stack g') (hfn : fs.getD fn noFn = f) {i : InsR} (hA : At fs f p stack.length i) (hn : ¬ (paid g' i).fuel < (paid g' i).now) (ho : i.op = 16) {s : List Int} {y : Int} (hst : stack = s ++ [y]) (hy : y ≠ 0) : RInv fs fn f args d g (p + 1) vars arrs s (paid g' i) := by
  subst hst
  obtain ⟨h1, _, _, h2⟩ := gle_paid h.ok (opOk_known hA.ok) hn
  have hto := to_jn (d := d) (h.cur hfn hA.get) hn ho (by rw [top_snoc]; exact hy)
  simp only [List.dropLast_concat] at hto
  refine h.next hA hto (by unfold succs; rw [if_neg (by omega), if_neg (by omega), if_pos ho]; simp) ?_ rfl rfl h1 h2
  rw [hA.plain (by omega), ho]
  show _ = ((s ++ [y]).length : Int) - 1 + 0
  simp
theorem RInv.does (h : RInv fs fn f args d g p vars arrs stack g') (hfn : fs.getD fn noFn = f) {i : InsR} (hA : At fs f p stack.length i) (hn : ¬ (paid g' i).fuel < (paid g' i).now) (hnc : i.op ≠ 15 ∧ i.op ≠ 16 ∧ i.op ≠ 17 ∧ i.op ≠ 18) {r : Int × Fr × GS} (hr : doesv i ⟨fn, p + 1, vars, arrs, stack⟩ (paid g' i) = r) :
    (r.1 = 0 → RInv fs fn f args d g (p + 1) r.2.1.vars r.2.1.arrs r.2.1.stack r.2.2) ∧ (r.1 ≠ 0 → Rand fs (newFr fs fn args) d g 0 r.1 r.2.2) := by
  have hkn := opOk_known hA.ok
  obtain ⟨h1, _, _, h2⟩ := gle_paid h.ok hkn hn
  have hto := to_does (d := d) (h.cur hfn hA.get) hn hnc
  have hk := doesv_kept i ⟨fn, p + 1, vars, arrs, stack⟩ (paid g' i)
  have hg := gle_does h.ok hkn hn ⟨fn, p + 1, vars, arrs, stack⟩
  have htk : takesv i.op ≤ (stack.length : Int) := by rw [← hA.plain (by omega)]; exact hA.takes.1
  have hl := fun h0 => doesv_len (g := paid g' i) (f := ⟨fn, p + 1, vars, arrs, stack⟩) hkn hnc htk h0
  simp only at hto hk hl
  rw [hr] at hto hk hg hl
  refine ⟨fun h0 => ?_, fun h0 => ?_⟩
  · have hto : To fs ⟨fn, p, vars, arrs, stack⟩ d g' (fun rest => .run (r.2.1 :: rest) r.2.2) := by
      obtain ⟨k, hk⟩ := hto
      exact ⟨k, fun rest hr => by rw [hk rest hr]; exact if_pos h0⟩
    have e : r.2.1 = ⟨fn, p + 1, r.2.1.vars, r.2.1.arrs, r.2.1.stack⟩ := by
      have e1 := hk.fn
      have e2 := hk.at_
      generalize r.2.1 = q at *
      obtain ⟨_, _, _, _, _⟩ := q
      simp only at e1 e2
      rw [e1, e2]
    rw [e] at hto
    refine h.next hA hto (by unfold succs; rw [if_neg (by omega), if_neg (by omega), if_neg (by omega)]; simp) ?_ hk.vars hk.arrs hg (by rw [hk.now]; exact h2)
    rw [hA.plain (by omega)]
    exact hl h0
  · have hto : To fs ⟨fn, p, vars, arrs, stack⟩ d g' (fun rest => outC 0 r.1 rest r.2.2) := by
      obtain ⟨k, hk⟩ := hto
      exact ⟨k, fun rest hr => by rw [hk rest hr]; exact if_neg h0⟩
    exact ⟨fun _ => rfl, h.run.trans hto⟩
theorem RInv.call (h : RInv fs fn f args d g p vars arrs stack g') (hfn : fs.getD fn noFn = f) {i : InsR} (hA : At fs f p stack.length i) (hn : ¬ (paid g' i).fuel < (paid g' i).now) (ho : i.op = 17) {pp : Nat} (hpp : (pp : Int) = (stack.length : Int) - (fs.getD i.a.toNat noFn).ps) {n err : Int} {g2 : GS} (hc : CallO fs i.a.toNat (stack.drop pp) d (paid g' i) n err g2) (hg : err = 0 → GLe (paid g' i) g2) :
    (err = 0 → RInv fs fn f args d g (p + 1) vars arrs (stack.take pp ++ [n]) g2) ∧ (err ≠ 0 → Rand fs (newFr fs fn args) d g 0 err g2) := by
  have hkn := opOk_known hA.ok
  obtain ⟨h1, _, _, h2⟩ := gle_paid h.ok hkn hn
  have hcl := (hA.call ho).2
  have htk := hA.takes
  rw [hcl] at htk
  have e : stack.length - parsOf fs i.a = pp := by unfold parsOf; omega
  have hto := to_call (d := d) (h.cur hfn hA.get) hn ho (n := n) (err := err) (g2 := g2) (by simp only; rw [e]; exact hc)
  simp only at hto
  rw [e] at hto
  refine ⟨fun h0 => ?_, fun h0 => ?_⟩
  · have hto : To fs ⟨fn, p, vars, arrs, stack⟩ d g' (fun rest => .run (⟨fn, p + 1, vars, arrs, stack.take pp ++ [n]⟩ :: rest) g2) := by
      obtain ⟨k, hk⟩ := hto
      exact ⟨k, fun rest hr => by rw [hk rest hr]; exact if_pos h0⟩
    have hg2 := hg h0
    have hnow := hg2.now
    refine h.next hA hto (by unfold succs; rw [if_neg (by omega), if_neg (by omega), if_neg (by omega)]; simp) ?_ rfl rfl (h1.trans hg2) (by omega)
    rw [hcl, ho]
    show _ = (stack.length : Int) - _ + 1
    rw [List.length_append, List.length_take, List.length_singleton]
    omega
  · have hto : To fs ⟨fn, p, vars, arrs, stack⟩ d g' (fun rest => outC 0 err rest g2) := by
      obtain ⟨k, hk⟩ := hto
      exact ⟨k, fun rest hr => by rw [hk rest hr]; exact if_neg h0⟩
    exact ⟨fun _ => rfl, h.run.trans hto⟩
theorem RInv.ret (h : RInv fs fn f args d g p vars arrs stack g') (hfn : fs.getD fn noFn = f) {i : InsR} (hA : At fs f p stack.length i) (hn : ¬ (paid g' i).fuel < (paid g' i).now) (ho : i.op = 18) {s : List Int} {y : Int} (hst : stack = s ++ [y]) : Rand fs (newFr fs fn args) d g y 0 (paid g' i) := by
  subst hst
  have hto := to_ret (d := d) (h.cur hfn hA.get) hn ho
  simp only [top_snoc] at hto
  exact ⟨fun h => absurd rfl h, h.run.trans hto⟩
theorem RInv.over (h : RInv fs fn f args d g p vars arrs stack g') (hfn : fs.getD fn noFn = f) {i : InsR} (hA : At fs f p stack.length i) (hn : (paid g' i).fuel < (paid g' i).now) : Rand fs (newFr fs fn args) d g 0 8 (paid g' i) := ⟨fun _ => rfl, h.run.trans (to_over (h.cur hfn hA.get) hn)⟩
theorem RInv.start {fs : List FnR} {fn : Nat} {f : FnR} {args : List Int} {d : Nat} {g : GS} (hfn : fs.getD fn noFn = f) (hf : goodF fs f) (hg : GOk g) {vs ar : Nat} (hv : (vs : Int) = f.vs) (ha : (ar : Int) = f.ar) (hl : args.length ≤ vs) :
    RInv fs fn f args d g 0 (args ++ List.replicate (vs - args.length) 0) (List.replicate ar (-1)) [] g := by
  have hW := depths_ok hf.2
  refine ⟨hW.1, by rw [List.length_append, List.length_replicate]; omega, by rw [List.length_replicate]; exact ha, ⟨hg, Int.le_refl _, rfl, rfl⟩, hg.n0, ?_⟩
  have e : newFr fs fn args = ⟨fn, 0, args ++ List.replicate (vs - args.length) 0, List.replicate ar (-1), []⟩ := by
    unfold newFr
    rw [hfn, ← hv, ← ha, Int.toNat_natCast, Int.toNat_natCast]
  rw [← e]
  exact To.refl _ _ _ _
theorem ms_start {W0 w w3 : World} {X : Nat → Prop} {m : Nat} {V : Value} {d : Nat} {g : GS} {F : Nat} {VA VB VC : Value} {vars arrs stack : List Int} (hm : Mm W0 w X m V d g) (hc : Chg (fun k => w.heap.size ≤ k) w w3) (hst : FSt w3 F VA VB VC vars arrs stack) (hF : w.heap.size ≤ F)
    (hA : ∀ k, VA.ownBlock = some k → w.heap.size ≤ k) (hB : ∀ k, VB.ownBlock = some k → w.heap.size ≤ k) (hC : ∀ k, VC.ownBlock = some k → w.heap.size ≤ k) :
    ∃ Y, Ms W0 w3 X Y m V d g F vars arrs stack ∧ Gr w X (fun k => w.heap.size ≤ k) w3 X Y := by
  refine ⟨fun k => w.heap.size ≤ k ∧ k < w3.heap.size, ⟨hm.mi.kept hc (fun k hk hx => ?_), ⟨VA, VB, VC, hst, ⟨hF, lt_of_heap hst.box⟩, fun k hk => ⟨hA k hk, ownsRow_lt hst.va k hk⟩, fun k hk => ⟨hB k hk, ownsRow_lt hst.vb k hk⟩, fun k hk => ⟨hC k hk, ownsRow_lt hst.vc k hk⟩⟩, hm.bel.trans (hc.below (B := W0.heap.size) (fun k hk => Nat.le_trans hm.bel.size hk) hm.bel.size), fun k hk => ⟨(hm.lx k hk).1, Nat.lt_of_lt_of_le (hm.lx k hk).2 hc.size⟩, fun k hk => ⟨Nat.le_trans hm.bel.size hk.1, hk.2⟩, fun k hk hy => ?_⟩, ⟨hc.mono (fun _ _ h => .inr h), fun _ h => .inl h, fun k h => .inl h.1⟩⟩
  · have := (hm.lx k hk).2; omega
  · have := (hm.lx k hk).2; omega
/-- how run ends -/
theorem run_end {W0 w wr : World} {X X' Y' : Nat → Prop} {m : Nat} {V : Value} {d : Nat} {g g' : GS} {F : Nat} {vars arrs stack : List Int} {O : Int → Int → GS → Prop} (h : Ms W0 wr X' Y' m V d g' F vars arrs stack) (hg : Gr w X (fun k => w.heap.size ≤ k) wr X' Y') {n err : Int} (hO : O n err g') (hl : err = 0 → GLe g g') :
    MachP W0 w X m V d g O (.returned (.tuple #[.int .i64 n, .int .i64 err])) wr :=
  ⟨X', n, err, g', rfl, ⟨h.mi, h.bel, h.lx⟩, hg.chg.mono (fun k hk hs => hs.resolve_right (by omega)), hg.gx, hO, hl⟩
/-- the meter has been charged -/
theorem Ms.paid {W0 w w' : World} {X Y : Nat → Prop} {m : Nat} {V : Value} {d : Nat} {g : GS} {F : Nat} {vars arrs stack : List Int} (h : Ms W0 w X Y m V d g F vars arrs stack) {mt hp : Nat} {Sh : Nat → Prop} {I0 I1 P KV CV : Value} (hs : MSt W0 w m mt hp Sh V I0 I1 P KV CV d g) (hX : MIn X m mt Sh P KV CV) (i : InsR)
    (hc : Chg (fun k => k = mt) w w') (hm : MetIs w' mt (g.now + costv i.op) g.fuel) : ∃ X', Ms W0 w' X' Y m V d (Go.Proofs.YtahmnmpfjgddpaaGreatDoor.paid g i) F vars arrs stack ∧ Gr w X Y w' X' Y :=
  h.mach (MIs.mono ⟨mt, hp, Sh, I0, I1, P, KV, CV, hs.turn _ hc hm, hX⟩ (fun k hk _ => .inl hk)) (hc.mono (fun k _ e => by rw [e]; exact hX.mt))
theorem Ms.open (W0 w : World) (X Y : Nat → Prop) (m : Nat) (V : Value) (d : Nat) (g : GS) (F : Nat) (vars arrs stack : List Int) (h : Ms W0 w X Y m V d g F vars arrs stack) : ∃ mt hp Sh I0 I1 P KV CV, MSt W0 w m mt hp Sh V I0 I1 P KV CV d g ∧ MIn X m mt Sh P KV CV ∧ w.cell? ⟨m, 0, none⟩ = some (.pointer (some ⟨mt, 0, none⟩)) := by
  obtain ⟨mt, hp, Sh, I0, I1, P, KV, CV, h1, h2⟩ := h.mi
  have c := cell_of_block h1.box 0
  simp at c
  exact ⟨mt, hp, Sh, I0, I1, P, KV, CV, h1, h2, c⟩
end Go.Proofs.YtahmnmpfjgddpaaGreatDoor
namespace Go.Proofs.YtahmnmpfjgddpaaGreatDoor
set_option linter.unusedVariables false
set_option linter.unusedSimpArgs false
open Go.RowKit


set_option maxHeartbeats 8000000 in
set_option maxRecDepth 100000 in
theorem run_step {W0 : World} {fs : List FnR} {V : Value} {m : Nat} {μ : Nat} (hC : Ctx W0 fs V) (hH : CallH W0 fs V m μ) : RunH W0 fs V m (μ + 1) := by
  intro w X d g fn args VA B c n hm hg hμ hf hd1 hd hA hAX hal hn hsrc
  obtain ⟨c2, _, _, _⟩ := hm.box
  obtain ⟨b, off, cap, B5, c5, e, hb, hcap, ⟨q0, q1, q2, q3, q4⟩, _⟩ := (hC.fns.keep hm.bel).get fn hf
  subst e
  obtain ⟨hgd, ⟨hhd, hty⟩, hlen⟩ := hC.fn hf
  obtain ⟨h1, h2, h3, h4⟩ := hhd
  obtain ⟨vs, hvse⟩ : ∃ vs : Nat, (vs : Int) = fs[fn].vs := ⟨fs[fn].vs.toNat, by omega⟩
  obtain ⟨ar, hare⟩ : ∃ ar : Nat, (ar : Int) = fs[fn].ar := ⟨fs[fn].ar.toNat, by omega⟩
  have hvs : vs ≤ 64 := by omega
  have har : ar ≤ 64 := by omega
  obtain ⟨k, hk⟩ : ∃ k, k = fs.length := ⟨_, rfl⟩
  obtain ⟨nm, hnm⟩ : ∃ nm, nm = fs[fn].nm := ⟨_, rfl⟩
  obtain ⟨ps, hpse⟩ : ∃ ps, ps = fs[fn].ps := ⟨_, rfl⟩
  have hfk : fn < k := by omega
  have hale : args.length ≤ vs := by omega
  rw [← hk] at c2 hcap
  rw [← hnm] at q0
  rw [← hpse] at q1
  rw [← hvse] at q2
  rw [← hare] at q3
  rw [← hn] at q4
  obtain ⟨w0, hw0⟩ : ∃ w0, w0 = w.alloc (.cells #[.string nm, .int .i64 ps, .int .i64 (vs : Int), .int .i64 (ar : Int), .slice B5 n c5] 31) := ⟨_, rfl⟩
  obtain ⟨PX, hPX⟩ : ∃ PX, PX = w.heap.size := ⟨_, rfl⟩
  have hc0 : Chg (fun _ => False) w w0 := by rw [hw0]; exact (Chg.refl _ _).alloc _
  have hx0 : w0.heap[PX]? = some (.cells #[.string nm, .int .i64 ps, .int .i64 (vs : Int), .int .i64 (ar : Int), .slice B5 n c5] 31 (0, 0)) := by rw [hw0]; exact heap_new' hPX.symm
  have HSK : Hid (∀ w', Chg (fun _ => False) w0 w' → w'.cell? ⟨PX, 2, none⟩ = some (.int .i64 (vs : Int)) ∧ w'.cell? ⟨PX, 3, none⟩ = some (.int .i64 (ar : Int))) := Lib.hid (fun w' hc => by
    have h := hc.heap hx0 (fun x => x)
    have z2 := cell_of_block h 2
    have z3 := cell_of_block h 3
    simp at z2 z3
    exact ⟨z2, z3⟩)
  have HM := Lib.hid hm
  have HG := Lib.hid hg
  have HWE := Lib.hid (And.intro hw0 hPX)
  have HC0 := Lib.hid hc0
  have HA := Lib.hid hA
  have HX := Lib.hid (And.intro hAX (And.intro hal (And.intro hvse hare)))
  have HSRC := Lib.hid hsrc
  have HN := Lib.hid hn
  have HTY := Lib.hid (And.intro hgd hty)
  have HLEN := Lib.hid hlen
  have HCC := Lib.hid hC
  have HHH := Lib.hid hH
  have HMU := Lib.hid hμ
  have HF := Lib.hid hf
  have HD := Lib.hid (And.intro hd1 hd)
  clear hm hg hw0 hPX hc0 hx0 hA hAX hal hvse hare hsrc hn hgd hty hlen hC hH hμ h1 h2 h3 h4 hk hnm hpse hd1 hd
  go_enter Tryz.func40, Tryz.ntmps40
  go_wp2_with fail
  go_step3
  go_upto_region 2 with fail
  rw [← HWE.out.1, ← HWE.out.2]
  clear c2 q0 q1 q2 q3 q4
  go_cut [13] from 26 to 34 (fun v wx => ∃ (F GA : Nat) (VB : Value), v = .pointer (some ⟨F, 0, none⟩) ∧ Hid (Begun w0 wx F GA VB vs ar))
  case first J K' hJ hK' =>
    have hmk := mkL vs hvs
    obtain ⟨wd, hwd⟩ : ∃ wd, wd = w0.drew := ⟨_, rfl⟩
    have hcd : Chg (fun _ => False) w0 wd := by rw [hwd]; exact (Chg.refl _ _).drew
    have hS := HSK.out wd hcd
    refine wp_region_tree (S := fun w' => w'.cell? ⟨PX, 2, none⟩ = some (.int .i64 (vs : Int)) ∧ w'.cell? ⟨PX, 3, none⟩ = some (.int .i64 (ar : Int))) (N := fun i => true) (by kernel_rfl) (.look 0 (.look 1 (.look 4 (.look 5 (.fork 2 (.act 3 (.act 6 (.look 7 (.act 8 (.look 9 .done))))) 3 (.fork 2 (.act 6 (.look 7 (.act 8 (.look 9 .done)))) 6 (.act 2 (.look 7 (.act 8 (.look 9 .done)))))))))) (by kernel_rfl) ?_
    rw [← hwd]
    clear hwd
    iterate 4 (refine tree_look rfl hS rfl (by intro w hS; obtain ⟨p0, p1⟩ := hS; go_simp; with_reducible rfl) (fun c a w h => h) ?_; simp only [Act.put, List.setIfInBounds_toArray, List.set_cons_succ, List.set_cons_zero])
    refine tree_fork rfl rfl rfl rfl (fun K hK => ?_) (fun K hK => ?_)
    · go_simp
      obtain ⟨y1, hy1⟩ : ∃ z, z = wd.alloc (.cells (madeCells #[.int .i64 0] vs) 2) := ⟨_, rfl⟩
      obtain ⟨GA, hGA⟩ : ∃ z, z = wd.heap.size := ⟨_, rfl⟩
      have cA : Chg (fun _ => False) wd y1 := by rw [hy1]; exact (Chg.refl _ _).alloc _
      have bA : y1.heap[GA]? = some (.cells (madeCells #[.int .i64 0] vs) 2 (0, 0)) := by rw [hy1]; exact heap_new' hGA.symm
      rw [← hy1, ← hGA]
      have HGA := Lib.hid hGA
      clear hGA
      have hSn := HSK.out y1 (hcd.then cA)
      refine hK _ _ ⟨fun _ => hSn, ?_⟩
      clear hK K hS hy1
      have hS := hSn
      clear hSn
      try simp only [Act.put, List.setIfInBounds_toArray, List.set_cons_succ, List.set_cons_zero]
      refine tree_act rfl rfl (fun K hK => ?_)
      go_simp
      obtain ⟨y2, hy2⟩ : ∃ z, z = y1.alloc (.cells #[.int .i64 (-1)] 3) := ⟨_, rfl⟩
      obtain ⟨GX, hGX⟩ : ∃ z, z = y1.heap.size := ⟨_, rfl⟩
      have cX : Chg (fun _ => False) y1 y2 := by rw [hy2]; exact (Chg.refl _ _).alloc _
      have bX : y2.cell? ⟨GX, 0, none⟩ = some (.int .i64 (-1)) := by rw [hy2, cell_of_block (heap_new' hGX.symm) 0]; rfl
      rw [← hy2, ← hGX]
      clear hGX
      have hSn := HSK.out y2 ((hcd.then cA).then cX)
      refine hK _ _ ⟨fun _ => hSn, ?_⟩
      clear hK K hS hy2
      have hS := hSn
      clear hSn
      try simp only [Act.put, List.setIfInBounds_toArray, List.set_cons_succ, List.set_cons_zero]
      refine tree_act rfl rfl (fun K hK => ?_)
      refine wp_call 59 _ _ Tryz.func59 rfl (by kernel_rfl) _ _ rfl #[.slice (some ⟨GX, 0, none⟩) 1 1, .int .i64 (ar : Int)] (by simp [Act.eval]) (R := fun v w' => ∃ G, v = .slice (some ⟨G, 0, none⟩) ar ar ∧ w'.ownsRow 0 3 1 (.slice (some ⟨G, 0, none⟩) ar ar) ar (nums (List.replicate ar (-1))) ∧ y2.heap.size ≤ G ∧ Chg (fun _ => False) y2 w') (calls_ret (repeat_any ar har bX) (by rintro e w' ⟨G, rfl, h1, h2, h3⟩; exact ⟨_, rfl, G, rfl, h1, h2, h3⟩)) ?_
      rintro v y3 ⟨GB, rfl, oB, nB, cB⟩
      have hSn := HSK.out y3 (((hcd.then cA).then cX).then cB)
      refine hK _ _ ⟨fun _ => hSn, ?_⟩
      clear hK K hS
      have hS := hSn
      clear hSn
      try simp only [Act.put, List.setIfInBounds_toArray, List.set_cons_succ, List.set_cons_zero]
      iterate 1 (refine tree_look rfl hS rfl (by intro w hS; obtain ⟨p0, p1⟩ := hS; go_simp; with_reducible rfl) (fun c a w h => h) ?_; simp only [Act.put, List.setIfInBounds_toArray, List.set_cons_succ, List.set_cons_zero])
      refine tree_act rfl rfl (fun K hK => ?_)
      have hst := FSt.new (w := y3) (made_row (cB.heap (cX.heap bA (fun x => x)) (fun x => x)) hvs) (oB) (fun e => by have := lt_of_heap (cX.heap bA (fun x => x)); omega)
      have hcz : Chg (fun _ => False) w0 (y3.alloc (.cells #[.slice (some ⟨GA, 0, none⟩) vs vs, .slice (some ⟨GB, 0, none⟩) ar ar, .slice none 0 0] 124)) := (((hcd.then cA).then cX).then cB).alloc _
      have hbg : Begun w0 (y3.alloc (.cells #[.slice (some ⟨GA, 0, none⟩) vs vs, .slice (some ⟨GB, 0, none⟩) ar ar, .slice none 0 0] 124)) y3.heap.size GA (.slice (some ⟨GB, 0, none⟩) ar ar) vs ar := ⟨hst, heap_old (cB.heap (cX.heap bA (fun x => x)) (fun x => x)), (((hcd.then cA).then cX).then cB).size, by rw [HGA.out]; exact hcd.size, fun k hk => by (have hk : some GB = some k := hk); injection hk with hk; rw [← hk]; exact Nat.le_trans ((hcd.then cA).then cX).size nB, hcz⟩
      go_simp
      have hSn := HSK.out _ hcz
      refine hK _ _ ⟨fun _ => hSn, ?_⟩
      clear hK K hS
      have hS := hSn
      clear hSn
      try simp only [Act.put, List.setIfInBounds_toArray, List.set_cons_succ, List.set_cons_zero]
      iterate 1 (refine tree_look rfl hS rfl (by intro w hS; obtain ⟨p0, p1⟩ := hS; go_simp; with_reducible rfl) (fun c a w h => h) ?_; simp only [Act.put, List.setIfInBounds_toArray, List.set_cons_succ, List.set_cons_zero])
      refine tree_end ?_
      refine hK' _ _ (Met.intro (hJ _ _ ?_))
      (repeat apply Exists.intro)
      refine ⟨?rel, rfl⟩
      case rel => exact ⟨_, GA, _, rfl, Lib.hid hbg⟩
    · go_simp
      obtain ⟨y1, hy1⟩ : ∃ z, z = wd.alloc (.cells #[.int .i64 (-1)] 3) := ⟨_, rfl⟩
      obtain ⟨GX, hGX⟩ : ∃ z, z = wd.heap.size := ⟨_, rfl⟩
      have cX : Chg (fun _ => False) wd y1 := by rw [hy1]; exact (Chg.refl _ _).alloc _
      have bX : y1.cell? ⟨GX, 0, none⟩ = some (.int .i64 (-1)) := by rw [hy1, cell_of_block (heap_new' hGX.symm) 0]; rfl
      rw [← hy1, ← hGX]
      clear hGX
      have hSn := HSK.out y1 (hcd.then cX)
      refine hK _ _ ⟨fun _ => hSn, ?_⟩
      clear hK K hS hy1
      have hS := hSn
      clear hSn
      try simp only [Act.put, List.setIfInBounds_toArray, List.set_cons_succ, List.set_cons_zero]
      refine tree_fork rfl rfl rfl rfl (fun K hK => ?_) (fun K hK => ?_)
      · go_simp
        obtain ⟨y2, hy2⟩ : ∃ z, z = y1.alloc (.cells (madeCells #[.int .i64 0] vs) 2) := ⟨_, rfl⟩
        obtain ⟨GA, hGA⟩ : ∃ z, z = y1.heap.size := ⟨_, rfl⟩
        have cA : Chg (fun _ => False) y1 y2 := by rw [hy2]; exact (Chg.refl _ _).alloc _
        have bA : y2.heap[GA]? = some (.cells (madeCells #[.int .i64 0] vs) 2 (0, 0)) := by rw [hy2]; exact heap_new' hGA.symm
        rw [← hy2, ← hGA]
        have HGA := Lib.hid hGA
        clear hGA
        have hSn := HSK.out y2 ((hcd.then cX).then cA)
        refine hK _ _ ⟨fun _ => hSn, ?_⟩
        clear hK K hS hy2
        have hS := hSn
        clear hSn
        try simp only [Act.put, List.setIfInBounds_toArray, List.set_cons_succ, List.set_cons_zero]
        refine tree_act rfl rfl (fun K hK => ?_)
        refine wp_call 59 _ _ Tryz.func59 rfl (by kernel_rfl) _ _ rfl #[.slice (some ⟨GX, 0, none⟩) 1 1, .int .i64 (ar : Int)] (by simp [Act.eval]) (R := fun v w' => ∃ G, v = .slice (some ⟨G, 0, none⟩) ar ar ∧ w'.ownsRow 0 3 1 (.slice (some ⟨G, 0, none⟩) ar ar) ar (nums (List.replicate ar (-1))) ∧ y2.heap.size ≤ G ∧ Chg (fun _ => False) y2 w') (calls_ret (repeat_any ar har (cA.cell bX (fun x => x))) (by rintro e w' ⟨G, rfl, h1, h2, h3⟩; exact ⟨_, rfl, G, rfl, h1, h2, h3⟩)) ?_
        rintro v y3 ⟨GB, rfl, oB, nB, cB⟩
        have hSn := HSK.out y3 (((hcd.then cX).then cA).then cB)
        refine hK _ _ ⟨fun _ => hSn, ?_⟩
        clear hK K hS
        have hS := hSn
        clear hSn
        try simp only [Act.put, List.setIfInBounds_toArray, List.set_cons_succ, List.set_cons_zero]
        iterate 1 (refine tree_look rfl hS rfl (by intro w hS; obtain ⟨p0, p1⟩ := hS; go_simp; with_reducible rfl) (fun c a w h => h) ?_; simp only [Act.put, List.setIfInBounds_toArray, List.set_cons_succ, List.set_cons_zero])
        refine tree_act rfl rfl (fun K hK => ?_)
        have hst := FSt.new (w := y3) (made_row (cB.heap bA (fun x => x)) hvs) (oB) (fun e => by have := lt_of_heap bA; omega)
        have hcz : Chg (fun _ => False) w0 (y3.alloc (.cells #[.slice (some ⟨GA, 0, none⟩) vs vs, .slice (some ⟨GB, 0, none⟩) ar ar, .slice none 0 0] 124)) := (((hcd.then cX).then cA).then cB).alloc _
        have hbg : Begun w0 (y3.alloc (.cells #[.slice (some ⟨GA, 0, none⟩) vs vs, .slice (some ⟨GB, 0, none⟩) ar ar, .slice none 0 0] 124)) y3.heap.size GA (.slice (some ⟨GB, 0, none⟩) ar ar) vs ar := ⟨hst, heap_old (cB.heap bA (fun x => x)), (((hcd.then cX).then cA).then cB).size, by rw [HGA.out]; exact (hcd.then cX).size, fun k hk => by (have hk : some GB = some k := hk); injection hk with hk; rw [← hk]; exact Nat.le_trans ((hcd.then cX).then cA).size nB, hcz⟩
        go_simp
        have hSn := HSK.out _ hcz
        refine hK _ _ ⟨fun _ => hSn, ?_⟩
        clear hK K hS
        have hS := hSn
        clear hSn
        try simp only [Act.put, List.setIfInBounds_toArray, List.set_cons_succ, List.set_cons_zero]
        iterate 1 (refine tree_look rfl hS rfl (by intro w hS; obtain ⟨p0, p1⟩ := hS; go_simp; with_reducible rfl) (fun c a w h => h) ?_; simp only [Act.put, List.setIfInBounds_toArray, List.set_cons_succ, List.set_cons_zero])
        refine tree_end ?_
        refine hK' _ _ (Met.intro (hJ _ _ ?_))
        (repeat apply Exists.intro)
        refine ⟨?rel, rfl⟩
        case rel => exact ⟨_, GA, _, rfl, Lib.hid hbg⟩
      · refine wp_call 59 _ _ Tryz.func59 rfl (by kernel_rfl) _ _ rfl #[.slice (some ⟨GX, 0, none⟩) 1 1, .int .i64 (ar : Int)] (by simp [Act.eval]) (R := fun v w' => ∃ G, v = .slice (some ⟨G, 0, none⟩) ar ar ∧ w'.ownsRow 0 3 1 (.slice (some ⟨G, 0, none⟩) ar ar) ar (nums (List.replicate ar (-1))) ∧ y1.heap.size ≤ G ∧ Chg (fun _ => False) y1 w') (calls_ret (repeat_any ar har bX) (by rintro e w' ⟨G, rfl, h1, h2, h3⟩; exact ⟨_, rfl, G, rfl, h1, h2, h3⟩)) ?_
        rintro v y2 ⟨GB, rfl, oB, nB, cB⟩
        have hSn := HSK.out y2 ((hcd.then cX).then cB)
        refine hK _ _ ⟨fun _ => hSn, ?_⟩
        clear hK K hS
        have hS := hSn
        clear hSn
        try simp only [Act.put, List.setIfInBounds_toArray, List.set_cons_succ, List.set_cons_zero]
        refine tree_act rfl rfl (fun K hK => ?_)
        go_simp
        obtain ⟨y3, hy3⟩ : ∃ z, z = y2.alloc (.cells (madeCells #[.int .i64 0] vs) 2) := ⟨_, rfl⟩
        obtain ⟨GA, hGA⟩ : ∃ z, z = y2.heap.size := ⟨_, rfl⟩
        have cA : Chg (fun _ => False) y2 y3 := by rw [hy3]; exact (Chg.refl _ _).alloc _
        have bA : y3.heap[GA]? = some (.cells (madeCells #[.int .i64 0] vs) 2 (0, 0)) := by rw [hy3]; exact heap_new' hGA.symm
        rw [← hy3, ← hGA]
        have HGA := Lib.hid hGA
        clear hGA
        have hSn := HSK.out y3 (((hcd.then cX).then cB).then cA)
        refine hK _ _ ⟨fun _ => hSn, ?_⟩
        clear hK K hS hy3
        have hS := hSn
        clear hSn
        try simp only [Act.put, List.setIfInBounds_toArray, List.set_cons_succ, List.set_cons_zero]
        iterate 1 (refine tree_look rfl hS rfl (by intro w hS; obtain ⟨p0, p1⟩ := hS; go_simp; with_reducible rfl) (fun c a w h => h) ?_; simp only [Act.put, List.setIfInBounds_toArray, List.set_cons_succ, List.set_cons_zero])
        refine tree_act rfl rfl (fun K hK => ?_)
        have hst := FSt.new (w := y3) (made_row (bA) hvs) (ownsRow_kept oB cA (fun _ _ x => x)) (fun e => by have := ownsRow_lt oB GB rfl; have h9 := HGA.out; omega)
        have hcz : Chg (fun _ => False) w0 (y3.alloc (.cells #[.slice (some ⟨GA, 0, none⟩) vs vs, .slice (some ⟨GB, 0, none⟩) ar ar, .slice none 0 0] 124)) := (((hcd.then cX).then cB).then cA).alloc _
        have hbg : Begun w0 (y3.alloc (.cells #[.slice (some ⟨GA, 0, none⟩) vs vs, .slice (some ⟨GB, 0, none⟩) ar ar, .slice none 0 0] 124)) y3.heap.size GA (.slice (some ⟨GB, 0, none⟩) ar ar) vs ar := ⟨hst, heap_old (bA), (((hcd.then cX).then cB).then cA).size, by rw [HGA.out]; exact ((hcd.then cX).then cB).size, fun k hk => by (have hk : some GB = some k := hk); injection hk with hk; rw [← hk]; exact Nat.le_trans (hcd.then cX).size nB, hcz⟩
        go_simp
        have hSn := HSK.out _ hcz
        refine hK _ _ ⟨fun _ => hSn, ?_⟩
        clear hK K hS
        have hS := hSn
        clear hSn
        try simp only [Act.put, List.setIfInBounds_toArray, List.set_cons_succ, List.set_cons_zero]
        iterate 1 (refine tree_look rfl hS rfl (by intro w hS; obtain ⟨p0, p1⟩ := hS; go_simp; with_reducible rfl) (fun c a w h => h) ?_; simp only [Act.put, List.setIfInBounds_toArray, List.set_cons_succ, List.set_cons_zero])
        refine tree_end ?_
        refine hK' _ _ (Met.intro (hJ _ _ ?_))
        (repeat apply Exists.intro)
        refine ⟨?rel, rfl⟩
        case rel => exact ⟨_, GA, _, rfl, Lib.hid hbg⟩
  obtain ⟨F, GA, VB, rfl, HBG⟩ := hcut
  have hbg := HBG.out
  have hA2 := (HA.out.keptX HC0.out (fun _ _ x => x)).keptX hbg.chg (fun _ _ x => x)
  obtain ⟨w3, hcp, hst3, hc3⟩ := hbg.st.args hbg.made hA2 hale
  have s0 := cell_of_block hbg.st.box 0
  simp at s0
  have hcw : Chg (fun k => w.heap.size ≤ k) w w3 := ((HC0.out.then hbg.chg).mono (fun _ _ x => x.elim)).then (hc3.mono (fun k _ e => by have e : k = GA := e; rw [e]; exact Nat.le_trans HC0.out.size hbg.na))
  obtain ⟨Y3, hms3, hgr3⟩ := ms_start HM.out hcw hst3 (Nat.le_trans HC0.out.size hbg.nf) (fun k hk => by (have hk : some GA = some k := hk); injection hk with hk; rw [← hk]; exact Nat.le_trans HC0.out.size hbg.na) (fun k hk => Nat.le_trans HC0.out.size (hbg.nb k hk)) (fun k hk => by cases hk)
  have hinv0 := RInv.start (d := d) HTY.out.1 (HCC.out.fn HF.out).2.1 HG.out HX.out.2.2.1 HX.out.2.2.2 hale
  have HMS := Lib.hid hms3
  have HGR := Lib.hid hgr3
  have HINV := Lib.hid hinv0
  obtain ⟨L3, hL3⟩ : ∃ L3, L3 = args.length := ⟨_, rfl⟩
  rw [← hL3] at hcp
  clear hms3 hgr3 hinv0 hcw hc3 hst3 hbg hA2 HBG HC0 HWE HSK hL3
  go_wp2_with fail
  go_step3
  go_wp2_with fail
  go_loopg [14] (g.fuel - g.now).toNat (fun μ' at_ wr => ∃ (p : Nat) (X' Y' : Nat → Prop) (vars arrs stack : List Int) (g' : GS), at_ = .int .i64 (p : Int) ∧ μ' = (g'.fuel - g'.now).toNat ∧ Hid (RInv fs fn fs[fn] args d g p vars arrs stack g') ∧ Hid (Ms W0 wr X' Y' m (.slice (some ⟨b, off, none⟩) fs.length cap) d g' F vars arrs stack) ∧ Hid (Gr w X (fun k => w.heap.size ≤ k) wr X' Y'))
  case atStart => exact ⟨0, X, Y3, _, _, _, g, rfl, rfl, HINV, HMS, HGR⟩
  case round =>
    obtain ⟨p, X1, Y1, vars, arrs, stack, g1, rfl, hmu, HINV1, HMS1, HGR1⟩ := hrel
    have HMU1 := Lib.hid hmu
    clear hmu HINV HMS HGR
    have hat := HINV1.out.at HCC.out.code (HCC.out.fn HF.out).2.1
    obtain ⟨i, hi⟩ : ∃ i, fs[fn].l.getD p noIns = i := ⟨_, rfl⟩
    rw [hi] at hat
    have hpl := hat.lt
    have hkn := opOk_known hat.ok
    have hsr2 : Src wr (.slice B fs[fn].l.length c) fs[fn].l.length (insCells fs[fn].l) := by
      have h := HSRC.out.keepB HMS1.out.bel
      rw [HN.out] at h
      exact h
    obtain ⟨bb, ob, cb, e, hbs, hcap5, k0, k1, k2⟩ := hsr2.get p hpl
    injection e with e1 e2 e3
    subst e1 e3
    have hie : fs[fn].l[p] = i := by have h := hat.ins; rw [List.getElem?_eq_getElem hpl] at h; injection h
    rw [hie] at k0 k1 k2
    have hp20 : p < 1048576 := Nat.lt_of_lt_of_le hpl HLEN.out
    have hpl : p < n := Nat.lt_of_lt_of_le hpl (Nat.le_of_eq HN.out.symm)
    have hcap5 : n ≤ c := Nat.le_trans (Nat.le_of_eq HN.out) hcap5
    obtain ⟨op, a, z⟩ := i
    simp only at k0 k1 k2 hkn
    have hiv : InsR.agg ⟨op, a, z⟩ = .agg #[.int .i64 op, .int .i64 a, .int .i64 z] := rfl
    obtain ⟨wx, hwx⟩ : ∃ wx, wx = wr.alloc (.cells #[.int .i64 op, .int .i64 a, .int .i64 z] 42) := ⟨_, rfl⟩
    obtain ⟨PB, hPB⟩ : ∃ PB, PB = wr.heap.size := ⟨_, rfl⟩
    have hcx : Chg (fun _ => False) wr wx := by rw [hwx]; exact (Chg.refl _ _).alloc _
    have hib : wx.heap[PB]? = some (.cells #[.int .i64 op, .int .i64 a, .int .i64 z] 42 (0, 0)) := by rw [hwx]; exact heap_new' hPB.symm
    obtain ⟨hmx, hgx⟩ := HMS1.out.still hcx
    have hPX : ¬ X1 PB := fun h => by have := (HMS1.out.lx _ h).2; omega
    have hPY : ¬ Y1 PB := fun h => by have := (HMS1.out.ly _ h).2; omega
    have hYF : Y1 F := by obtain ⟨_, _, _, _, h, _⟩ := HMS1.out.fi; exact h
    have hPF : PB ≠ F := fun h => hPY (by rw [h]; exact hYF)
    have HWX := Lib.hid (And.intro hwx hPB)
    have HMX := Lib.hid hmx
    have HGX := Lib.hid (HGR1.out.trans hgx)
    have HIB := Lib.hid hib
    have HAT := Lib.hid hat
    have HP := Lib.hid (And.intro hPX (And.intro hPY (And.intro hYF hPF)))
    clear hat hi hie hsr2 hwx hPB hcx hib hmx hgx hPX hPY hYF hPF hiv hbs
    go_upto_region 7 with fail
    rw [← HWX.out.1, ← HWX.out.2]
    clear k0 k1 k2 hcap5 hpl
    obtain ⟨wd, hwd⟩ : ∃ wd, wd = wx.drew := ⟨_, rfl⟩
    have hcd : Chg (fun _ => False) wx wd := by rw [hwd]; exact (Chg.refl _ _).drew
    obtain ⟨hmd, hgd⟩ := HMX.out.still hcd
    have hibd := hcd.heap HIB.out (fun x => x)
    obtain ⟨mt, hp_, Sh, I0, I1, P, KV, CV, hst, hin, cm⟩ := hmd.open
    have i0 := cell_of_block hibd 0
    simp at i0
    have hS : wd.cell? ⟨m, 0, none⟩ = some (.pointer (some ⟨mt, 0, none⟩)) ∧ wd.cell? ⟨PB, 0, none⟩ = some (.int .i64 op) := ⟨cm, i0⟩
    obtain ⟨E, hE⟩ : ∃ E : Int, E = if g1.fuel < g1.now + costv op then 8 else 0 := ⟨_, rfl⟩
    have HE := Lib.hid hE
    have CC := Lib.hid (cost_any (w := wd) (HCC.out.sorts.keep hmd.bel) op hkn)
    have HMD := Lib.hid hmd
    have HGD := Lib.hid (HGX.out.trans hgd)
    have HST := Lib.hid hst
    have HIN := Lib.hid hin
    have HIBD := Lib.hid hibd
    have HKN := Lib.hid hkn
    refine wp_region_ord (S := fun w' => w'.cell? ⟨m, 0, none⟩ = some (.pointer (some ⟨mt, 0, none⟩)) ∧ w'.cell? ⟨PB, 0, none⟩ = some (.int .i64 op)) (N := fun i => i != 8) (by kernel_rfl) [(0, true), (1, true), (2, true), (3, true), (4, true), (5, true), (6, true), (7, false), (8, false), (9, true)] (by kernel_rfl) ?_
    rw [← hwd]
    clear hwd hcd hmd hgd hibd hst hin cm i0 hE hkn
    iterate 7 (refine ord_look rfl hS rfl (by intro w hS; obtain ⟨p0, p1⟩ := hS; go_simp; with_reducible rfl) (fun c a w h => h) ?_; simp only [Act.put, List.setIfInBounds_toArray, List.set_cons_succ, List.set_cons_zero])
    refine ord_act rfl rfl (fun K hK => ?_)
    refine wp_callv 35 _ _ Tryz.func35 rfl (by kernel_rfl) _ _ _ rfl rfl #[.int .i64 op] (by simp [Act.eval]) (R := fun v w' => v = .int .i64 (costv op) ∧ Below wd.heap.size wd w') (calls_ret CC.out (by rintro e w' ⟨rfl, h⟩; exact ⟨_, rfl, rfl, h⟩)) ?_
    rintro v w1 ⟨rfl, hb1⟩
    have hc1 := Below.chg hb1
    have hS1 : w1.cell? ⟨m, 0, none⟩ = some (.pointer (some ⟨mt, 0, none⟩)) ∧ w1.cell? ⟨PB, 0, none⟩ = some (.int .i64 op) := ⟨hc1.cell hS.1 (fun x => x), hc1.cell hS.2 (fun x => x)⟩
    obtain ⟨hm1, hg1⟩ := HMD.out.still hc1
    have hst1 := HST.out.kept hc1 HIN.out (fun _ _ x => x)
    have hib1 := hc1.heap HIBD.out (fun x => x)
    have hcs := cost_small HKN.out
    have CH := Lib.hid (charge_any hst1.met HINV1.out.ok.ok.n0 HINV1.out.ok.ok.nf (by have := HINV1.out.ok.ok.fm; omega) (c := costv op) (by omega) (by omega))
    rw [← HE.out] at CH
    have HM1 := Lib.hid hm1
    have HG1 := Lib.hid (HGD.out.trans hg1)
    have HST1 := Lib.hid hst1
    have HIB1 := Lib.hid hib1
    refine hK _ _ ⟨fun _ => hS1, ?_⟩
    clear hK K hS hb1 hc1 hm1 hg1 hst1 hib1 hcs CC
    have hS := hS1
    clear hS1
    try simp only [Act.put, List.setIfInBounds_toArray, List.set_cons_succ, List.set_cons_zero]
    refine ord_act rfl rfl (fun K hK => ?_)
    refine wp_call 37 _ _ Tryz.func37 rfl (by kernel_rfl) _ _ rfl #[.pointer (some ⟨mt, 0, none⟩), .int .i64 (costv op)] (by simp [Act.eval]) (R := fun v w' => v = .int .i64 E ∧ MetIs w' mt (g1.now + costv op) g1.fuel ∧ Chg (fun k => k = mt) w1 w') (calls_ret CH.out (by rintro e w' ⟨rfl, h⟩; exact ⟨_, rfl, rfl, h⟩)) ?_
    rintro v w2 ⟨rfl, hmet, hc2⟩
    obtain ⟨X2, hm2, hg2⟩ := HM1.out.paid HST1.out HIN.out ⟨op, a, z⟩ hc2 hmet
    have hib2 := hc2.heap HIB1.out (fun e => HP.out.1 (by have e : PB = mt := e; rw [e]; exact HIN.out.mt))
    have HM2 := Lib.hid hm2
    have HG2 := Lib.hid (HG1.out.trans hg2)
    have HIB2 := Lib.hid hib2
    have hSn : w2.cell? ⟨m, 0, none⟩ = some (.pointer (some ⟨mt, 0, none⟩)) ∧ w2.cell? ⟨PB, 0, none⟩ = some (.int .i64 op) := ⟨hc2.cell hS.1 (fun e => HST1.out.mm e), by have h := cell_of_block hib2 0; simpa using h⟩
    refine hK _ _ ⟨(fun h => by cases h), ?_⟩
    clear hK K hS hm2 hg2 hib2 hmet hc2 CH
    have hS := hSn
    clear hSn
    try simp only [Act.put, List.setIfInBounds_toArray, List.set_cons_succ, List.set_cons_zero]
    iterate 1 (refine ord_look rfl hS rfl (by intro w hS; obtain ⟨p0, p1⟩ := hS; go_simp; with_reducible rfl) (fun c a w h => h) ?_; simp only [Act.put, List.setIfInBounds_toArray, List.set_cons_succ, List.set_cons_zero])
    refine ord_end ?_
    have i0 := hS.2
    have i1 := cell_of_block HIB2.out 1
    have i2 := cell_of_block HIB2.out 2
    simp at i1 i2
    clear hS
    have hinv := HINV1.out
    have hfn := HTY.out.1
    have hato := HAT.out
    have hko := HKN.out
    have hsl : stack.length ≤ 1048576 := by have := hinv.sl; have := hinv.ok.ok.nf; have := hinv.ok.ok.fm; omega
    by_cases hov : (Go.Proofs.YtahmnmpfjgddpaaGreatDoor.paid g1 ⟨op, a, z⟩).fuel < (Go.Proofs.YtahmnmpfjgddpaaGreatDoor.paid g1 ⟨op, a, z⟩).now
    · obtain rfl : E = 8 := by rw [HE.out]; exact if_pos hov
      have HF := Lib.hid (hinv.over hfn hato hov)
      clear hinv hfn hato hko hsl hov
      go_wp2_with fail
      try rw [Exit.noGoto_ret]
      go_ret2
      exact run_end HM2.out HG2.out HF.out (fun h => by cases h)
    obtain rfl : E = 0 := by rw [HE.out]; exact if_neg hov
    have HOV := Lib.hid hov
    obtain ⟨gl, _, gm, _⟩ := gle_paid hinv.ok hko hov
    have hin := HINV1.out.ok
    have gm2 : ((Go.Proofs.YtahmnmpfjgddpaaGreatDoor.paid g1 ⟨op, a, z⟩).fuel - (Go.Proofs.YtahmnmpfjgddpaaGreatDoor.paid g1 ⟨op, a, z⟩).now).toNat < μ := by
      have := HMU.out
      have := hin.now
      have := hin.fuel
      omega
    have HGL := Lib.hid (And.intro gl (And.intro gm gm2))
    have hcs : op = 18 ∨ op = 16 ∨ op = 15 ∨ op = 17 ∨ (op ≠ 15 ∧ op ≠ 16 ∧ op ≠ 17 ∧ op ≠ 18) := by omega
    clear gl gm gm2 hin hov
    rcases hcs with rfl | rfl | rfl | rfl | hnc
    · -- return
      have ht : takesv 18 ≤ (stack.length : Int) := by rw [← hato.plain (by show (18 : Int) ≠ 17; decide)]; exact hato.takes.1
      have ht : (1 : Int) ≤ (stack.length : Int) := ht
      obtain ⟨s, y, rfl⟩ := snoc_of (l := stack) (by omega)
      have CP := Lib.hid (pop_any HM2.out.fi (by simp at hsl; omega))
      have HF := Lib.hid (hinv.ret hfn hato (by have := HOV.out; omega) rfl rfl)
      clear hinv hfn hato hko hsl ht
      go_wp2_with fail
      refine CP.out.mono ?_; rintro e w3 ⟨rfl, hf3, hc3⟩
      obtain ⟨Y3, hm3, hg3⟩ := HM2.out.frame (hf3.mono (fun k hk _ => .inl hk)) (hc3.mono (fun k _ e => by have e : k = F := e; rw [e]; exact HP.out.2.2.1))
      have HM3 := Lib.hid hm3
      have HG3 := Lib.hid (HG2.out.trans hg3)
      clear hf3 hc3 hm3 hg3 CP i0 i1 i2
      go_wp2_with fail
      try rw [Exit.noGoto_ret]
      go_ret2
      exact run_end HM3.out HG3.out HF.out (fun _ => HGL.out.1)
    · -- jump at nought
      have ht : takesv 16 ≤ (stack.length : Int) := by rw [← hato.plain (by show (16 : Int) ≠ 17; decide)]; exact hato.takes.1
      have ht : (1 : Int) ≤ (stack.length : Int) := ht
      obtain ⟨s, y, rfl⟩ := snoc_of (l := stack) (by omega)
      have CP := Lib.hid (pop_any HM2.out.fi (by simp at hsl; omega))
      have HINV := Lib.hid hinv
      clear hinv hfn hato hko hsl ht
      go_wp2_with fail
      refine CP.out.mono ?_; rintro e w3 ⟨rfl, hf3, hc3⟩
      obtain ⟨Y3, hm3, hg3⟩ := HM2.out.frame (hf3.mono (fun k hk _ => .inl hk)) (hc3.mono (fun k _ e => by have e : k = F := e; rw [e]; exact HP.out.2.2.1))
      have HM3 := Lib.hid hm3
      have HG3 := Lib.hid (HG2.out.trans hg3)
      have j1 := hc3.cell i1 HP.out.2.2.2
      clear hf3 hc3 hm3 hg3 CP i0 i1 i2
      by_cases hy : y = 0
      · obtain rfl := hy
        have HI := Lib.hid (HINV.out.jz HTY.out.1 HAT.out (by have := HOV.out; omega) rfl rfl)
        go_wp2_with fail
        try rw [Exit.noGoto_normal]
        go_roundg ((Go.Proofs.YtahmnmpfjgddpaaGreatDoor.paid g1 ⟨16, a, z⟩).fuel - (Go.Proofs.YtahmnmpfjgddpaaGreatDoor.paid g1 ⟨16, a, z⟩).now).toNat
        case measure => rw [HMU1.out]; exact HGL.out.2.1
        case rel => exact ⟨a.toNat, _, _, _, _, _, _, by rw [HI.out.2], rfl, Lib.hid HI.out.1, HM3, HG3⟩
      · have HI := Lib.hid (HINV.out.jn HTY.out.1 HAT.out (by have := HOV.out; omega) rfl rfl hy)
        go_wp2_with fail
        try rw [Exit.noGoto_normal]
        go_roundg ((Go.Proofs.YtahmnmpfjgddpaaGreatDoor.paid g1 ⟨16, a, z⟩).fuel - (Go.Proofs.YtahmnmpfjgddpaaGreatDoor.paid g1 ⟨16, a, z⟩).now).toNat
        case measure => rw [HMU1.out]; exact HGL.out.2.1
        case rel => exact ⟨p + 1, _, _, _, _, _, _, by go_num, rfl, HI, HM3, HG3⟩
    · -- jump
      have HI := Lib.hid (hinv.jmp hfn hato (by have := HOV.out; omega) rfl)
      clear hinv hfn hato hko hsl
      go_wp2_with fail
      try rw [Exit.noGoto_normal]
      go_roundg ((Go.Proofs.YtahmnmpfjgddpaaGreatDoor.paid g1 ⟨15, a, z⟩).fuel - (Go.Proofs.YtahmnmpfjgddpaaGreatDoor.paid g1 ⟨15, a, z⟩).now).toNat
      case measure => rw [HMU1.out]; exact HGL.out.2.1
      case rel => exact ⟨a.toNat, _, _, _, _, _, _, by rw [HI.out.2], rfl, Lib.hid HI.out.1, HM2, HG2⟩
    · -- call
      obtain ⟨⟨ha1, ha2⟩, hps⟩ := hato.call rfl
      simp only at ha1 ha2 hps
      obtain ⟨fn', rfl⟩ : ∃ fn' : Nat, a = (fn' : Int) := ⟨a.toNat, by omega⟩
      have hf' : fn' < fs.length := by omega
      have ht := hato.takes
      rw [hps] at ht
      simp only [Int.toNat_natCast] at ht hps
      have hgd' := (HCC.out.fn hf').1
      rw [hgd'] at ht
      obtain ⟨pp, hpp⟩ : ∃ pp : Nat, (pp : Int) = (stack.length : Int) - fs[fn'].ps := ⟨((stack.length : Int) - fs[fn'].ps).toNat, by omega⟩
      have CD := Lib.hid (does_call (f := ⟨fn, p + 1, vars, arrs, stack⟩) HM2.out HCC.out HHH.out HGL.out.1.ok HGL.out.2.2 fn' z hf' HD.out.2 pp hpp ht.2 hsl)
      have HPP := Lib.hid (And.intro hpp hgd')
      clear hinv hfn hato hko hsl ha1 ha2 hps ht hpp hgd'
      go_wp2_with fail
      refine CD.out.mono ?_; rintro e w3 ⟨X3, Y3, n3, e3, g3, rfl, hm3, hg3, hco, hgl3⟩
      have HI := Lib.hid (HINV1.out.call HTY.out.1 HAT.out (by have := HOV.out; omega) rfl (pp := pp) (by simp only [Int.toNat_natCast]; rw [HPP.out.2]; exact HPP.out.1) (by simp only [Int.toNat_natCast]; exact hco) hgl3)
      have HM3 := Lib.hid hm3
      have HG3 := Lib.hid (HG2.out.trans hg3)
      have HGL3 := Lib.hid hgl3
      clear hm3 hg3 hco hgl3 CD i0 i1 i2
      by_cases hy : e3 = 0
      · obtain rfl := hy
        go_wp2_with fail
        try rw [Exit.noGoto_normal]
        go_roundg (g3.fuel - g3.now).toNat
        case measure =>
          have h1 := HGL3.out (by first | rfl | trivial)
          have h2 := h1.now
          have h3 := h1.fuel
          have h4 := HGL.out.2.1
          rw [HMU1.out]
          omega
        case rel => exact ⟨p + 1, _, _, _, _, _, _, by go_num, rfl, Lib.hid (HI.out.1 (by first | rfl | trivial)), HM3, HG3⟩
      · go_wp2_with fail
        try rw [Exit.noGoto_ret]
        go_ret2
        exact run_end HM3.out HG3.out (HI.out.2 hy) (fun h => absurd h hy)
    · -- another
      have ht : takesv op ≤ (stack.length : Int) := by rw [← hato.plain hnc.2.2.1]; exact hato.takes.1
      have hpg := hinv.ok.ok
      have hp1 := hpg.pr
      have hp2 := hpg.ke
      have hp3 := hpg.cl
      have hp4 := hpg.nf
      have hp5 := hpg.fm
      have hh := ((HCC.out.fn HF.out).2.1).1
      have CD := Lib.hid (does_any (f := ⟨fn, p + 1, vars, arrs, stack⟩) HM2.out HCC.out.sorts ⟨op, a, z⟩ hato.ok hinv.vl hinv.al (by have := hh.2.2.1; omega) (by have := hh.2.2.2; omega) ht hnc hsl (by show g1.pr.length ≤ _; omega) (by show g1.ke.length ≤ _; omega) (by show g1.cl.length ≤ _; omega))
      have HI := Lib.hid (hinv.does hfn hato (by have := HOV.out; omega) hnc rfl)
      unfold DoesP at CD
      obtain ⟨r, hr⟩ : ∃ r, doesv ⟨op, a, z⟩ ⟨fn, p + 1, vars, arrs, stack⟩ (Go.Proofs.YtahmnmpfjgddpaaGreatDoor.paid g1 ⟨op, a, z⟩) = r := ⟨_, rfl⟩
      rw [hr] at CD HI
      have hgd := gle_does hinv.ok hko (by have := HOV.out; omega) ⟨fn, p + 1, vars, arrs, stack⟩
      have hkp := doesv_kept ⟨op, a, z⟩ ⟨fn, p + 1, vars, arrs, stack⟩ (Go.Proofs.YtahmnmpfjgddpaaGreatDoor.paid g1 ⟨op, a, z⟩)
      rw [hr] at hgd hkp
      have HKP := Lib.hid (And.intro hgd hkp)
      clear hinv hfn hato hko hsl ht hpg hp1 hp2 hp3 hp4 hp5 hh hr hgd hkp
      unfold InsR.agg at CD
      simp only at CD
      obtain ⟨n1, n2, n3, n4⟩ := hnc
      go_wp2_with fail
      refine CD.out.mono ?_; rintro e w3 ⟨X3, Y3, vars3, arrs3, stack3, rfl, hm3, hg3, he3⟩
      have HM3 := Lib.hid hm3
      have HG3 := Lib.hid (HG2.out.trans hg3)
      have HE3 := Lib.hid he3
      clear hm3 hg3 he3 CD i0 i1 i2
      obtain ⟨er, fr, gr⟩ := r
      simp only at HM3 HE3 HI HKP ⊢
      by_cases hy : er = 0
      · obtain rfl := hy
        obtain ⟨rfl, rfl, rfl⟩ := HE3.out (by first | rfl | trivial)
        go_wp2_with fail
        try rw [Exit.noGoto_normal]
        go_roundg (gr.fuel - gr.now).toNat
        case measure =>
          have h2 := HKP.out.2.now
          have h3 := HKP.out.2.fuel
          have h4 := HGL.out.2.1
          rw [HMU1.out, h2, h3]
          exact h4
        case rel => exact ⟨p + 1, _, _, _, _, _, _, by go_num, rfl, Lib.hid (HI.out.1 (by first | rfl | trivial)), HM3, HG3⟩
      · go_wp2_with fail
        try rw [Exit.noGoto_ret]
        go_ret2
        exact run_end HM3.out HG3.out (HI.out.2 hy) (fun h => absurd h hy)
end Go.Proofs.YtahmnmpfjgddpaaGreatDoor
namespace Go.Proofs.YtahmnmpfjgddpaaGreatDoor
set_option linter.unusedVariables false
set_option linter.unusedSimpArgs false
open Go.RowKit

theorem run_all {W0 : World} {fs : List FnR} {V : Value} (hC : Ctx W0 fs V) (m : Nat) : ∀ μ, CallH W0 fs V m μ
  | 0 => call_of_run hC (fun w X d g fn args VA B c n hm hg hμ => by omega)
  | μ + 1 => call_of_run hC (run_step hC (run_all hC m μ))

structure OutR where
  pr : List Int
  ke : List Int
  cl : List Int
  clk : Int
  res : Int
  err : Int
def OutIs (w : World) (v : Value) (o : OutR) : Prop := ∃ P K C, v = .agg #[P, K, C, .int .i64 o.clk, .int .i64 o.res, .int .i64 o.err] ∧ NumSrc w P o.pr ∧ NumSrc w K o.ke ∧ NumSrc w C o.cl
/-- the rows of an outcome lie in new memory -/
def FreshV (lo : Nat) (w : World) (v : Value) : Prop := ∃ P K C a b c, v = .agg #[P, K, C, a, b, c] ∧ ∀ V ∈ [P, K, C], ∀ k, V.ownBlock = some k → lo ≤ k ∧ k < w.heap.size ∧ ∀ o, w.frozen? ⟨k, o, none⟩ = false
theorem row_frz {w : World} {t : TypeId} {V : Value} {n : Nat} {xs : List Value} (h : w.ownsRow 0 t 1 V n xs) (k : Nat) (hk : V.ownBlock = some k) (o : Nat) : w.frozen? ⟨k, o, none⟩ = false := by
  rcases h.2 with ⟨rfl, _⟩ | ⟨g, cap, cur, rfl, _, hh, _⟩
  · cases hk
  · injection hk with hk
    subst hk
    exact frozen_of_block hh o
def startG (i0 i1 : List Int) (fuel quota : Int) : GS := ⟨0, clampf fuel, clampq quota, [], i0, i1, [], [], []⟩
def RunO (fs : List FnR) (i0 i1 : List Int) (fuel quota : Int) (o : OutR) : Prop :=
  (¬ CodeOk fs ∧ o = ⟨[], [], [], 0, 0, 6⟩) ∨ (CodeOk fs ∧ ∃ g', Rand fs (newFr fs 0 []) 1 (startG i0 i1 fuel quota) o.res o.err g' ∧ o.pr = g'.pr ∧ o.ke = g'.ke ∧ o.cl = g'.cl ∧ o.clk = g'.now)

/-- a machine is made -/
structure Born (W0 w0 w : World) (m : Nat) (V : Value) (g : GS) : Prop where
  mm : Mm W0 w (fun k => w0.heap.size ≤ k ∧ k < w.heap.size) m V 0 g
  chg : Chg (fun _ => False) w0 w
theorem mach_new {W0 w0 w : World} {V I0 I1 : Value} {i0 i1 : List Int} {mt hp : Nat} {S : Nat → Prop} {fuel quota : Int} (hb : Below W0.heap.size W0 w0) (hc : Chg (fun _ => False) w0 w) (hM : MetIs w mt 0 (clampf fuel)) (hH : HeapIs w S hp (clampq quota) []) (h0 : NumSrc W0 I0 i0) (h1 : NumSrc W0 I1 i1)
    (hs : w0.heap.size ≤ mt ∧ (∀ k, S k → mt ≠ k) ∧ ∀ k, S k → w0.heap.size ≤ k) :
    Born W0 w0 (w.alloc (.cells #[.pointer (some ⟨mt, 0, none⟩), .pointer (some ⟨hp, 0, none⟩), V, I0, I1, .nilIface, .int .i64 0, .slice none 0 0, .slice none 0 0, .slice none 0 0, .int .i64 0, .int .i64 0, .int .i64 0] 62)) w.heap.size V ⟨0, clampf fuel, clampq quota, [], i0, i1, [], [], []⟩ := by
  have ha := (Chg.refl (fun _ => False) w).alloc (.cells #[.pointer (some ⟨mt, 0, none⟩), .pointer (some ⟨hp, 0, none⟩), V, I0, I1, .nilIface, .int .i64 0, .slice none 0 0, .slice none 0 0, .slice none 0 0, .int .i64 0, .int .i64 0, .int .i64 0] 62)
  have hml := lt_of_heap hM
  have hsz : (w.alloc (.cells #[.pointer (some ⟨mt, 0, none⟩), .pointer (some ⟨hp, 0, none⟩), V, I0, I1, .nilIface, .int .i64 0, .slice none 0 0, .slice none 0 0, .slice none 0 0, .int .i64 0, .int .i64 0, .int .i64 0] 62)).heap.size = w.heap.size + 1 := by show (w.heap.push _).size = _; exact Array.size_push _
  have hH2 := (hH.bound).kept ha (fun _ _ x => x)
  refine ⟨⟨⟨mt, hp, fun k => S k ∧ k < w.heap.size, I0, I1, .slice none 0 0, .slice none 0 0, .slice none 0 0, ⟨heap_new _ _, hM.kept ha (fun x => x), hH2, h0, h1, World.ownsRow_nil _ _ _ _, World.ownsRow_nil _ _ _ _, World.ownsRow_nil _ _ _ _, by omega, fun h => by omega, fun h => hs.2.1 _ h.1 rfl, fun k hk => by rw [hsz]; omega, ⟨(fun h => by cases h), (fun h => by cases h), (fun k h => by cases h)⟩, ⟨(fun h => by cases h), (fun h => by cases h), (fun k h => by cases h)⟩, ⟨(fun h => by cases h), (fun h => by cases h), (fun k h => by cases h)⟩, (fun k h => by cases h), (fun k h => by cases h), (fun k h => by cases h)⟩, ⟨⟨hc.size, by rw [hsz]; omega⟩, ⟨hs.1, by rw [hsz]; omega⟩, fun k hk => ⟨hs.2.2 k hk.1, by rw [hsz]; omega⟩, (fun k h => by cases h), (fun k h => by cases h), (fun k h => by cases h)⟩⟩, ?_, fun k hk => ⟨Nat.le_trans hb.size hk.1, hk.2⟩⟩, hc.then ha⟩
  exact hb.trans ((hc.then ha).below (B := W0.heap.size) (fun k h => h.elim) hb.size)

set_option maxHeartbeats 8000000 in
set_option maxRecDepth 100000 in
theorem run_any {w : World} {A : Option Addr} {c : Nat} {fs : List FnR} {I0 I1 : Value} {i0 i1 : List Int} {fuel quota : Int} (hs : SortsIs w) (hfs : FnsIs w (.slice A fs.length c) fs) (hkn : fs.length ≤ 1048576) (hl : ∀ f ∈ fs, f.l.length ≤ 1048576) (h0 : NumSrc w I0 i0) (h1 : NumSrc w I1 i1) (hfu : fuel ≤ 1048576) :
    Calls Tryz.prog 8 #[.agg #[.slice A fs.length c], .agg #[I0, I1], .int .i64 fuel, .int .i64 quota, .nilIface] w fun e w' => ∃ v o, e = .returned v ∧ OutIs w' v o ∧ RunO fs i0 i1 fuel quota o ∧ Below w.heap.size w w' ∧ FreshV w.heap.size w' v := by
  have h0' := h0
  have h1' := h1
  obtain ⟨A0, d0, e0, _⟩ := h0'
  obtain ⟨A1, d1, e1, _⟩ := h1'
  obtain ⟨n0, hn0⟩ : ∃ n0, n0 = i0.length := ⟨_, rfl⟩
  obtain ⟨n1, hn1⟩ : ∃ n1, n1 = i1.length := ⟨_, rfl⟩
  obtain ⟨k, hk⟩ : ∃ k, k = fs.length := ⟨_, rfl⟩
  rw [← hn0] at e0
  rw [← hn1] at e1
  subst e0 e1
  rw [← hk]
  obtain ⟨wa, hwa⟩ : ∃ z, z = w.alloc (.cells #[.slice A k c] 24) := ⟨_, rfl⟩
  obtain ⟨B5, hB5⟩ : ∃ z, z = w.heap.size := ⟨_, rfl⟩
  obtain ⟨wb, hwb⟩ : ∃ z, z = wa.alloc (.cells #[.slice A0 n0 d0, .slice A1 n1 d1] 27) := ⟨_, rfl⟩
  obtain ⟨B6, hB6⟩ : ∃ z, z = wa.heap.size := ⟨_, rfl⟩
  obtain ⟨w0, hw0⟩ : ∃ z, z = wb.alloc (.cells #[.slice none 0 0, .slice none 0 0, .slice none 0 0, .int .i64 0, .int .i64 0, .int .i64 0] 36) := ⟨_, rfl⟩
  obtain ⟨T, hT⟩ : ∃ z, z = wb.heap.size := ⟨_, rfl⟩
  have ca : Chg (fun _ => False) w wa := by rw [hwa]; exact (Chg.refl _ _).alloc _
  have cb : Chg (fun _ => False) wa wb := by rw [hwb]; exact (Chg.refl _ _).alloc _
  have c0 : Chg (fun _ => False) wb w0 := by rw [hw0]; exact (Chg.refl _ _).alloc _
  have b5 : w0.heap[B5]? = some (.cells #[.slice A k c] 24 (0, 0)) := (cb.then c0).heap (by rw [hwa]; exact heap_new' hB5.symm) (fun x => x)
  have b6 : w0.heap[B6]? = some (.cells #[.slice A0 n0 d0, .slice A1 n1 d1] 27 (0, 0)) := c0.heap (by rw [hwb]; exact heap_new' hB6.symm) (fun x => x)
  have bT : w0.heap[T]? = some (.cells #[.slice none 0 0, .slice none 0 0, .slice none 0 0, .int .i64 0, .int .i64 0, .int .i64 0] 36 (0, 0)) := by rw [hw0]; exact heap_new' hT.symm
  have hb0 : Below w.heap.size w w0 := ((ca.then cb).then c0).below (fun k h => h.elim) (Nat.le_refl _)
  have hTl : w.heap.size ≤ T := by rw [hT]; exact (ca.then cb).size
  have CC := Lib.hid (code_any (w := w0) (A := A) (c := c) (hs.keep hb0) (hfs.keep hb0) hkn hl)
  rw [← hk] at CC hfs
  have e6 : B6 = w.heap.size + 1 := by rw [hB6, hwa]; show (w.heap.push _).size = _; exact Array.size_push _
  have eT : T = w.heap.size + 1 + 1 := by rw [hT, hwb]; show (wa.heap.push _).size = _; rw [Array.size_push, ← hB6, e6]
  have HWE := Lib.hid (And.intro hwa (And.intro hwb (And.intro hw0 (And.intro eT (And.intro e6 hB5)))))
  have HB0 := Lib.hid hb0
  have HBX := Lib.hid (And.intro b5 (And.intro b6 (And.intro bT hTl)))
  have x0 := cell_of_block b5 0
  simp at x0
  have HS := Lib.hid hs
  have HFS := Lib.hid hfs
  have HL := Lib.hid hl
  have HNS := Lib.hid (And.intro h0 h1)
  obtain ⟨Z, hZ⟩ : ∃ Z, Z = codev fs := ⟨_, rfl⟩
  rw [← hZ] at CC
  have HZ := Lib.hid hZ
  have HFU := Lib.hid hfu
  have HK := Lib.hid (And.intro hk hkn)
  clear e6 eT hwa hB5 hwb hB6 hw0 hT ca cb c0 b5 b6 bT hb0 hTl hs hfs hl h0 h1 hZ hk hn0 hn1 hkn hfu
  go_enter Tryz.func8, Tryz.ntmps8
  go_upto_region 1 with fail
  rw [← HWE.out.1, ← HWE.out.2.1, ← HWE.out.2.2.1, ← HWE.out.2.2.2.1, ← HWE.out.2.2.2.2.1, ← HWE.out.2.2.2.2.2]
  go_wp2_with fail
  refine CC.out.mono ?_; rintro e w1 ⟨rfl, hb1⟩
  clear CC x0
  have hc1 := Below.chg hb1
  have y5 := hc1.heap HBX.out.1 (fun x => x)
  have y6 := hc1.heap HBX.out.2.1 (fun x => x)
  have yT := hc1.heap HBX.out.2.2.1 (fun x => x)
  have HB1 := Lib.hid (bel_trans HB0.out hb1)
  by_cases hco : CodeOk fs
  · obtain rfl : Z = 0 := by rw [HZ.out]; exact codev_ok hco
    have HCO := Lib.hid hco
    have HSK : Hid (∀ w', Chg (fun _ => False) w1 w' → w'.cell? ⟨B5, 0, none⟩ = some (.slice A k c) ∧ w'.cell? ⟨B6, 0, none⟩ = some (.slice A0 n0 d0) ∧ w'.cell? ⟨B6, 1, none⟩ = some (.slice A1 n1 d1)) := Lib.hid (fun w' hc => by
      have z0 := cell_of_block (hc.heap y5 (fun x => x)) 0
      have z1 := cell_of_block (hc.heap y6 (fun x => x)) 0
      have z2 := cell_of_block (hc.heap y6 (fun x => x)) 1
      simp at z0 z1 z2
      exact ⟨z0, z1, z2⟩)
    have HYT := Lib.hid yT
    clear hco hb1 hc1 y5 y6 yT
    obtain ⟨Q1, hq1⟩ : ∃ Q1, (if quota < 0 then 0 else quota) = Q1 := ⟨_, rfl⟩
    obtain ⟨Q, hq2⟩ : ∃ Q, (if 1048576 < Q1 then 1048576 else Q1) = Q := ⟨_, rfl⟩
    have HQ : Hid (clampq Q = clampq quota) := Lib.hid (by rw [← hq2, ← hq1]; unfold clampq; repeat' split <;> omega)
    go_upto_region 3 with fail
    go_cut [11] from 16 to 30 (fun v wx => ∃ m : Nat, v = .pointer (some ⟨m, 0, none⟩) ∧ Hid (Born w w1 wx m (.slice A k c) (startG i0 i1 fuel quota)))
    case first J K' hJ hK' =>
      obtain ⟨wd, hwd⟩ : ∃ wd, wd = w1.drew := ⟨_, rfl⟩
      have hcd : Chg (fun _ => False) w1 wd := by rw [hwd]; exact (Chg.refl _ _).drew
      have hS := HSK.out wd hcd
      refine wp_region_tree (S := fun w' => w'.cell? ⟨B5, 0, none⟩ = some (.slice A k c) ∧ w'.cell? ⟨B6, 0, none⟩ = some (.slice A0 n0 d0) ∧ w'.cell? ⟨B6, 1, none⟩ = some (.slice A1 n1 d1)) (N := fun i => true) (by kernel_rfl) (.look 0 (.look 2 (.look 3 (.look 4 (.look 6 (.look 7 (.look 8 (.look 9 (.look 10 (.look 11 (.look 12 (.act 1 (.act 5 (.look 13 (.act 14 (.look 15 .done)))))))))))))))) (by kernel_rfl) ?_
      rw [← hwd]
      clear hwd
      iterate 11 (refine tree_look rfl hS rfl (by intro w hS; obtain ⟨p0, p1, p2⟩ := hS; go_simp; with_reducible rfl) (fun c a w h => h) ?_; simp only [Act.put, List.setIfInBounds_toArray, List.set_cons_succ, List.set_cons_zero])
      refine tree_act rfl rfl (fun K hK => ?_)
      refine wp_call 21 _ _ Tryz.func21 rfl (by kernel_rfl) _ _ rfl #[.int .i64 fuel] (by simp [Act.eval]) (R := fun v w' => v = .pointer (some ⟨wd.heap.size, 0, none⟩) ∧ MetIs w' wd.heap.size 0 (clampf fuel) ∧ Chg (fun _ => False) wd w') (calls_ret (meter_new_any fuel wd) (by rintro e w' ⟨rfl, h⟩; exact ⟨_, rfl, rfl, h⟩)) ?_
      obtain ⟨mt, hmt⟩ : ∃ z, z = wd.heap.size := ⟨_, rfl⟩
      rw [← hmt]
      have HMT := Lib.hid hmt
      clear hmt
      rintro v y1 ⟨rfl, bM, cM⟩
      have hSn := HSK.out y1 (hcd.then cM)
      refine hK _ _ ⟨fun _ => hSn, ?_⟩
      clear hK K hS
      have hS := hSn
      clear hSn
      try simp only [Act.put, List.setIfInBounds_toArray, List.set_cons_succ, List.set_cons_zero]
      refine tree_act rfl rfl (fun K hK => ?_)
      refine wp_call 22 _ _ Tryz.func22 rfl (by kernel_rfl) _ _ rfl #[.int .i64 Q] (by simp [Act.eval]) (R := fun v w' => ∃ hp, v = .pointer (some ⟨hp, 0, none⟩) ∧ HeapIs w' (fun k => y1.heap.size ≤ k) hp (clampq Q) [] ∧ Chg (fun _ => False) y1 w') (calls_ret (heap_new_any Q y1) (by rintro e w' ⟨g, rfl, h⟩; exact ⟨_, rfl, g, rfl, h⟩)) ?_
      rintro v y2 ⟨hp, rfl, bH, cH⟩
      have hSn := HSK.out y2 ((hcd.then cM).then cH)
      refine hK _ _ ⟨fun _ => hSn, ?_⟩
      clear hK K hS
      have hS := hSn
      clear hSn
      try simp only [Act.put, List.setIfInBounds_toArray, List.set_cons_succ, List.set_cons_zero]
      iterate 1 (refine tree_look rfl hS rfl (by intro w hS; obtain ⟨p0, p1, p2⟩ := hS; go_simp; with_reducible rfl) (fun c a w h => h) ?_; simp only [Act.put, List.setIfInBounds_toArray, List.set_cons_succ, List.set_cons_zero])
      refine tree_act rfl rfl (fun K hK => ?_)
      have hbg := mach_new (W0 := w) (w0 := w1) (w := y2) (V := .slice A k c) (I0 := .slice A0 n0 d0) (I1 := .slice A1 n1 d1) (i0 := i0) (i1 := i1) HB1.out ((hcd.then cM).then cH) (bM.kept cH (fun x => x)) (bH) HNS.out.1 HNS.out.2 (⟨by have := lt_of_heap bM; rw [HMT.out] at this ⊢; have := hcd.size; omega, fun k hk => by have := lt_of_heap bM; omega, fun k hk => Nat.le_trans (hcd.then cM).size hk⟩)
      have hcz : Chg (fun _ => False) w1 (y2.alloc (.cells #[.pointer (some ⟨mt, 0, none⟩), .pointer (some ⟨hp, 0, none⟩), .slice A k c, .slice A0 n0 d0, .slice A1 n1 d1, .nilIface, .int .i64 0, .slice none 0 0, .slice none 0 0, .slice none 0 0, .int .i64 0, .int .i64 0, .int .i64 0] 62)) := ((hcd.then cM).then cH).alloc _
      go_simp
      have hSn := HSK.out _ hcz
      refine hK _ _ ⟨fun _ => hSn, ?_⟩
      clear hK K hS
      have hS := hSn
      clear hSn
      try simp only [Act.put, List.setIfInBounds_toArray, List.set_cons_succ, List.set_cons_zero]
      iterate 1 (refine tree_look rfl hS rfl (by intro w hS; obtain ⟨p0, p1, p2⟩ := hS; go_simp; with_reducible rfl) (fun c a w h => h) ?_; simp only [Act.put, List.setIfInBounds_toArray, List.set_cons_succ, List.set_cons_zero])
      refine tree_end ?_
      refine hK' _ _ (Met.intro (hJ _ _ ?_))
      (repeat apply Exists.intro)
      refine ⟨?rel, rfl⟩
      case rel => exact ⟨_, rfl, Lib.hid (by unfold startG; rw [← HQ.out]; exact hbg)⟩
    obtain ⟨m, rfl, HBN⟩ := hcut
    have hm0 : (0 : Nat) < fs.length := by have := HCO.out.1; omega
    have hps : (([] : List Int).length : Int) = fs[0].ps := by
      have h := HCO.out.2.1
      rw [List.getD_eq_getElem?_getD, List.getElem?_eq_getElem hm0] at h
      exact h.symm
    have hgok : GOk (startG i0 i1 fuel quota) := by
      have h := clampf_in fuel
      have h2 : clampf fuel ≤ 1048576 := by have := HFU.out; unfold clampf; repeat' split <;> omega
      exact ⟨Int.le_refl _, h.1, h2, Int.le_refl _, Int.le_refl _, Int.le_refl _⟩
    have CALL := Lib.hid (run_all (W0 := w) (fs := fs) (V := .slice A k c) ⟨HCO.out, HFS.out, HS.out, HL.out⟩ m _ wc _ 0 (startG i0 i1 fuel quota) 0 [] (.slice none 0 0) HBN.out.mm hgok (Nat.lt_succ_self _) hm0 (by omega) ⟨none, 0, rfl, Nat.le_refl _, by simp [maxLen], fun h => by cases h⟩ (fun k h => by cases h) hps)
    clear hm0 hps hgok hq1 hq2
    go_wp2_with fail
    refine CALL.out.mono ?_; rintro e w3 ⟨X3, n3, e3, g3, rfl, hm3, hc3, hx3, hO, _⟩
    have hT3 := hc3.heap (HBN.out.chg.heap HYT.out (fun x => x)) (fun h => by have := lt_of_heap HYT.out; omega)
    obtain ⟨mt, hp, Sh, J0, J1, P, KV, CV, hst, hin⟩ := hm3.mi
    obtain ⟨_, AP, cP, rfl⟩ := ownsRow_slice hst.pr
    obtain ⟨_, AK, cK, rfl⟩ := ownsRow_slice hst.ke
    obtain ⟨_, AC, cC, rfl⟩ := ownsRow_slice hst.cl
    have HGE : Hid (∀ k, X3 k → T < k ∧ w.heap.size ≤ k) := Lib.hid (fun k hk => by
      have h1 := lt_of_heap HYT.out
      have h2 := HB1.out.size
      rcases hx3 k hk with h | h
      · exact ⟨by omega, by omega⟩
      · have := HBN.out.chg.size
        exact ⟨by omega, by omega⟩)
    have hC3 : Chg (fun k => w.heap.size ≤ k) w1 w3 := (HBN.out.chg.mono (fun _ _ x => x.elim)).then (hc3.mono (fun k _ h => by have := HB1.out.size; omega))
    obtain ⟨w4, hw4⟩ : ∃ z, z = (w3.setCell ⟨m, 11, none⟩ (.int .i64 n3)).setCell ⟨m, 12, none⟩ (.int .i64 e3) := ⟨_, rfl⟩
    have box4 := heap_set (heap_set hst.box 11 (.int .i64 n3)) 12 (.int .i64 e3)
    have hc4 : Chg (fun k => k = m) w3 w4 := by rw [hw4]; exact (Chg.set_cell (w := w3) ⟨m, 11, none⟩ (.int .i64 n3)).then (Chg.set_cell ⟨m, 12, none⟩ (.int .i64 e3))
    rw [← hw4] at box4
    have f1 := frozen_of_block hst.box 11
    have f2 := frozen_of_block hst.box 12
    have f3 := frozen_of_block box4 10
    have z0 := cell_of_block box4 0
    have g1 := cell_of_block hst.box 11
    have g2 := cell_of_block hst.box 12
    have g4 := cell_of_block box4 10
    have CN := Lib.hid (now_any (hst.met.kept hc4 (fun e => hst.mm e.symm)))
    obtain ⟨w5, hw5⟩ : ∃ z, z = w4.setCell ⟨m, 10, none⟩ (.int .i64 g3.now) := ⟨_, rfl⟩
    have box5 := heap_set box4 10 (.int .i64 g3.now)
    have hc5 : Chg (fun k => k = m) w4 w5 := by rw [hw5]; exact Chg.set_cell (w := w4) ⟨m, 10, none⟩ (.int .i64 g3.now)
    rw [← hw5] at box5
    have hT5 := (hc4.then hc5).heap hT3 (fun e => by have := (HGE.out m hin.m).1; omega)
    have q0 := cell_of_block box5 7
    have q1 := cell_of_block box5 8
    have q2 := cell_of_block box5 9
    have q3 := cell_of_block box5 10
    have q4 := cell_of_block box5 11
    have q5 := cell_of_block box5 12
    simp at z0 g1 g2 g4 q0 q1 q2 q3 q4 q5
    have HO := Lib.hid hO
    have HST := Lib.hid hst
    have HIN := Lib.hid hin
    have HW := Lib.hid (And.intro hw4 hw5)
    have HC45 := Lib.hid (And.intro hC3 (hc4.then hc5))
    have HT5 := Lib.hid hT5
    clear hm3 hc3 hx3 hO hT3 hst hin hw4 hw5 hc4 hc5 hC3 box4 box5 hT5 CALL
    go_upto_region 5 with fail
    rw [← HW.out.1]
    go_wp2_with fail
    refine CN.out.mono ?_; rintro e w6 ⟨rfl, rfl⟩
    go_upto_region 6 with fail
    rw [← HW.out.2]
    clear z0 f1 f2 f3 g1 g2 g4 CN
    have t0 := frozen_of_block HT5.out 0
    have t1 := frozen_of_block HT5.out 1
    have t2 := frozen_of_block HT5.out 2
    have t3 := frozen_of_block HT5.out 3
    have t4 := frozen_of_block HT5.out 4
    have t5 := frozen_of_block HT5.out 5
    have u0 := cell_of_block HT5.out 0
    have u1 := cell_of_block HT5.out 1
    have u2 := cell_of_block HT5.out 2
    have u3 := cell_of_block HT5.out 3
    have u4 := cell_of_block HT5.out 4
    have u5 := cell_of_block HT5.out 5
    simp at u0 u1 u2 u3 u4 u5
    go_wp2_with fail
    obtain ⟨wf, hwf⟩ : ∃ z, z = ((((((w5.setCell ⟨T, 0, none⟩ (Value.slice AP g3.pr.length cP)).setCell ⟨T, 1, none⟩ (Value.slice AK g3.ke.length cK)).setCell ⟨T, 2, none⟩ (Value.slice AC g3.cl.length cC)).setCell ⟨T, 3, none⟩ (Value.int .i64 g3.now)).setCell ⟨T, 4, none⟩ (Value.int .i64 n3)).setCell ⟨T, 5, none⟩ (Value.int .i64 e3)) := ⟨_, rfl⟩
    have boxf := (heap_set (heap_set (heap_set (heap_set (heap_set (heap_set HT5.out 0 (Value.slice AP g3.pr.length cP)) 1 (Value.slice AK g3.ke.length cK)) 2 (Value.slice AC g3.cl.length cC)) 3 (Value.int .i64 g3.now)) 4 (Value.int .i64 n3)) 5 (Value.int .i64 e3))
    rw [← hwf] at boxf
    have hcf : Chg (fun k => k = T) w5 wf := by rw [hwf]; exact ((((((Chg.refl _ _).then (Chg.set_cell ⟨T, 0, none⟩ _)).then (Chg.set_cell ⟨T, 1, none⟩ _)).then (Chg.set_cell ⟨T, 2, none⟩ _)).then (Chg.set_cell ⟨T, 3, none⟩ _)).then (Chg.set_cell ⟨T, 4, none⟩ _)).then (Chg.set_cell ⟨T, 5, none⟩ _)
    have v0 := cell_of_block boxf 0
    have v1 := cell_of_block boxf 1
    have v2 := cell_of_block boxf 2
    have v3 := cell_of_block boxf 3
    have v4 := cell_of_block boxf 4
    have v5 := cell_of_block boxf 5
    simp at v0 v1 v2 v3 v4 v5
    rw [← hwf]
    refine bodyPost_ret (by simp [results, Tryz.results8, go_sem, v0, v1, v2, v3, v4, v5]; try rfl) rfl ?_
    have hrow := fun (t : TypeId) (Vx : Value) (l : List Int) (h : w3.ownsRow 0 t 1 Vx l.length (nums l)) (hm : Vx.ownBlock ≠ some m) (hX : ∀ k, Vx.ownBlock = some k → X3 k) => (NumSrc.of_row h).keptX (HC45.out.2.mono (T := fun k => k = m ∨ k = T) (fun k _ e => .inl e) |>.then (hcf.mono (fun k _ e => .inr e))) (fun k hk e => by
      rcases e with e | e
      · exact hm (by rw [hk, e])
      · have := (HGE.out k (hX k hk)).1; omega)
    have hfz := fun (t : TypeId) (Vx : Value) (l : List Int) (h : w3.ownsRow 0 t 1 Vx l.length (nums l)) (hm : Vx.ownBlock ≠ some m) (hX : ∀ k, Vx.ownBlock = some k → X3 k) (k : Nat) (hk : Vx.ownBlock = some k) (o : Nat) => show wf.frozen? ⟨k, o, none⟩ = false from by
      have hcc := (HC45.out.2.mono (T := fun k => k = m ∨ k = T) (fun k _ e => .inl e)).then (hcf.mono (fun k _ e => .inr e))
      rw [hcc.frozen (p := ⟨k, o, none⟩) (ownsRow_lt h k hk) (fun e => by
        rcases e with e | e
        · exact hm (by rw [hk]; exact congrArg some e)
        · have e : k = T := e
          have := (HGE.out k (hX k hk)).1; omega)]
      exact row_frz h k hk o
    have hTl := HBX.out.2.2.2
    have hfin : Chg (fun k => w.heap.size ≤ k) w1 wf := (HC45.out.1.then (HC45.out.2.mono (fun k _ e => by have e : k = m := e; rw [e]; exact (HGE.out m HIN.out.m).2))).then (hcf.mono (fun k _ e => by have e : k = T := e; rw [e]; exact hTl))
    refine ⟨_, ⟨g3.pr, g3.ke, g3.cl, g3.now, n3, e3⟩, rfl, ⟨_, _, _, rfl, hrow _ _ _ HST.out.pr HST.out.pm.1 HIN.out.p, hrow _ _ _ HST.out.ke HST.out.km.1 HIN.out.k, hrow _ _ _ HST.out.cl HST.out.cm.1 HIN.out.c⟩, .inr ⟨HCO.out, g3, ?_, rfl, rfl, rfl, rfl⟩, HB1.out.trans (hfin.below (B := w.heap.size) (fun _ h => h) HB1.out.size), ⟨_, _, _, _, _, _, rfl, fun V hV k hk => ?_⟩⟩
    rotate_left
    · have hsz : w3.heap.size ≤ wf.heap.size := Nat.le_trans HC45.out.2.size hcf.size
      simp only [List.mem_cons, List.not_mem_nil, or_false] at hV
      rcases hV with rfl | rfl | rfl
      · exact ⟨(HGE.out k (HIN.out.p k hk)).2, Nat.lt_of_lt_of_le (ownsRow_lt HST.out.pr k hk) hsz, hfz _ _ _ HST.out.pr HST.out.pm.1 HIN.out.p k hk⟩
      · exact ⟨(HGE.out k (HIN.out.k k hk)).2, Nat.lt_of_lt_of_le (ownsRow_lt HST.out.ke k hk) hsz, hfz _ _ _ HST.out.ke HST.out.km.1 HIN.out.k k hk⟩
      · exact ⟨(HGE.out k (HIN.out.c k hk)).2, Nat.lt_of_lt_of_le (ownsRow_lt HST.out.cl k hk) hsz, hfz _ _ _ HST.out.cl HST.out.cm.1 HIN.out.c k hk⟩
    rcases HO.out with ⟨h, _⟩ | ⟨_, h⟩
    · omega
    · exact h
  · obtain rfl : Z = 6 := by rw [HZ.out]; exact codev_no hco
    have HCO := Lib.hid hco
    have HYT := Lib.hid yT
    have t0 := frozen_of_block yT 0
    have t1 := frozen_of_block yT 1
    have t2 := frozen_of_block yT 2
    have t3 := frozen_of_block yT 3
    have t4 := frozen_of_block yT 4
    have t5 := frozen_of_block yT 5
    have u0 := cell_of_block yT 0
    have u1 := cell_of_block yT 1
    have u2 := cell_of_block yT 2
    have u3 := cell_of_block yT 3
    have u4 := cell_of_block yT 4
    have u5 := cell_of_block yT 5
    simp at u0 u1 u2 u3 u4 u5
    clear hco hb1 hc1 y5 y6 yT
    go_wp2_with fail
    obtain ⟨wf, hwf⟩ : ∃ z, z = ((((((w1.setCell ⟨T, 0, none⟩ (Value.slice none 0 0)).setCell ⟨T, 1, none⟩ (Value.slice none 0 0)).setCell ⟨T, 2, none⟩ (Value.slice none 0 0)).setCell ⟨T, 3, none⟩ (Value.int .i64 0)).setCell ⟨T, 4, none⟩ (Value.int .i64 0)).setCell ⟨T, 5, none⟩ (Value.int .i64 6)) := ⟨_, rfl⟩
    have boxf := (heap_set (heap_set (heap_set (heap_set (heap_set (heap_set HYT.out 0 (Value.slice none 0 0)) 1 (Value.slice none 0 0)) 2 (Value.slice none 0 0)) 3 (Value.int .i64 0)) 4 (Value.int .i64 0)) 5 (Value.int .i64 6))
    rw [← hwf] at boxf
    have hcf : Chg (fun k => k = T) w1 wf := by rw [hwf]; exact ((((((Chg.refl _ _).then (Chg.set_cell ⟨T, 0, none⟩ _)).then (Chg.set_cell ⟨T, 1, none⟩ _)).then (Chg.set_cell ⟨T, 2, none⟩ _)).then (Chg.set_cell ⟨T, 3, none⟩ _)).then (Chg.set_cell ⟨T, 4, none⟩ _)).then (Chg.set_cell ⟨T, 5, none⟩ _)
    have v0 := cell_of_block boxf 0
    have v1 := cell_of_block boxf 1
    have v2 := cell_of_block boxf 2
    have v3 := cell_of_block boxf 3
    have v4 := cell_of_block boxf 4
    have v5 := cell_of_block boxf 5
    simp at v0 v1 v2 v3 v4 v5
    rw [← hwf]
    refine bodyPost_ret (by simp [results, Tryz.results8, go_sem, v0, v1, v2, v3, v4, v5]; try rfl) rfl ?_
    have hTl := HBX.out.2.2.2
    have hn : ∀ w' : World, NumSrc w' (.slice none 0 0) [] := fun w' => ⟨none, 0, rfl, Nat.le_refl _, by simp [maxLen], fun h => by cases h⟩
    exact ⟨_, ⟨[], [], [], 0, 0, 6⟩, rfl, ⟨_, _, _, rfl, hn _, hn _, hn _⟩, .inl ⟨HCO.out, rfl⟩, HB1.out.trans (hcf.below (B := w.heap.size) (fun k h => by have h : k = T := h; rw [h]; exact hTl) HB1.out.size), ⟨_, _, _, _, _, _, rfl, fun V hV k hk => by simp only [List.mem_cons, List.not_mem_nil, or_false, or_self] at hV; subst hV; cases hk⟩⟩
end Go.Proofs.YtahmnmpfjgddpaaGreatDoor
