/- interp: a frame in memory; pop, push. -/
import Derived.Test.YtdpimkbdieafgaaDoorIntA
import Derived.Deep.AppendLies
namespace Go.Proofs.YtdpimkbdieafgaaDoor
set_option linter.unusedVariables false
set_option linter.unusedSimpArgs false
open Go.RowKit

def nums (l : List Int) : List Value := l.map (Value.int .i64)
theorem nums_length (l : List Int) : (nums l).length = l.length := by simp [nums]
theorem nums_get (l : List Int) (j : Nat) (h : j < l.length) : (nums l)[j]? = some (.int .i64 l[j]) := by simp [nums, h]
theorem nums_snoc (l : List Int) (x : Int) : nums (l ++ [x]) = nums l ++ [.int .i64 x] := by simp [nums]
theorem nums_set (l : List Int) (j : Nat) (x : Int) : nums (l.set j x) = (nums l).set j (.int .i64 x) := by simp [nums, List.map_set]
theorem infoL : (Tryd.prog.info? 2).map (fun i => (i.zero, i.size, i.bytes)) = some (some (.int .i64 0), 1, 8) := by kernel_rfl
theorem infoI : (Tryd.prog.info? 3).map (fun i => (i.zero, i.size, i.bytes)) = some (some (.int .i64 0), 1, 8) := by kernel_rfl

/-- a shorter slice of a row -/
theorem ownsRow_short {w : World} {base : Nat} {e : TypeId} {n cap : Nat} {A : Option Addr} {xs : List Value} (h : w.ownsRow base e 1 (.slice A n cap) n xs) (m : Nat) (hm : m ≤ n) : w.ownsRow base e 1 (.slice A m cap) m (xs.take m) := by
  obtain ⟨hl, h0 | ⟨g, cap', cur, e1, hb, hh, h1, h2, h3, h4⟩⟩ := h
  · obtain ⟨e1, rfl⟩ := h0
    injection e1 with e1 e2 e3
    subst e1 e3
    have : m = 0 := by omega
    subst this
    exact ⟨by simp, .inl ⟨rfl, rfl⟩⟩
  · injection e1 with e1 e2 e3
    subst e1 e3
    refine ⟨by rw [List.length_take]; omega, .inr ⟨g, cap, cur, rfl, hb, hh, by omega, h2, h3, ?_⟩⟩
    rw [← h4, List.take_take]
    congr 1
    omega
theorem ownsRow_cell {w : World} {base : Nat} {e : TypeId} {n cap : Nat} {A : Option Addr} {xs : List Value} (h : w.ownsRow base e 1 (.slice A n cap) n xs) (j : Nat) (hj : j < n) : ∃ g, A = some ⟨g, 0, none⟩ ∧ g < w.heap.size ∧ n ≤ cap ∧ w.frozen? ⟨g, j, none⟩ = false ∧ ∀ u, xs[j]? = some u → w.cell? ⟨g, j, none⟩ = some u := by
  have hcs := fun g hg => h.cells (g := g) hg j
  rcases h.2 with ⟨e1, h0⟩ | ⟨g, cap', cur, e1, hb, hh, h1, h2, h3⟩
  · omega
  · injection e1 with e1 e2 e3
    subst e1 e3
    refine ⟨g, rfl, lt_of_heap hh, h1, frozen_of_block hh j, fun u hu => ?_⟩
    have := hcs g rfl u hu
    rwa [add0] at this
theorem ownsRow_cap {w : World} {base : Nat} {e : TypeId} {n cap : Nat} {A : Option Addr} {xs : List Value} (h : w.ownsRow base e 1 (.slice A n cap) n xs) : n ≤ cap ∧ cap ≤ maxLen := by
  rcases h.2 with ⟨e1, h0⟩ | ⟨g, cap', cur, e1, hb, hh, h1, h2, h3⟩
  · injection e1 with e1 e2 e3
    subst e3
    exact ⟨by omega, by unfold maxLen; omega⟩
  · injection e1 with e1 e2 e3
    subst e3
    exact ⟨h1, h2⟩

/-- the memory of a frame -/
structure FSt (w : World) (F : Nat) (VA VB VC : Value) (vars arrs stack : List Int) : Prop where
  box : w.heap[F]? = some (.cells #[VA, VB, VC] 134 (0, 0))
  va : w.ownsRow 0 2 1 VA vars.length (nums vars)
  vb : w.ownsRow 0 3 1 VB arrs.length (nums arrs)
  vc : w.ownsRow 0 2 1 VC stack.length (nums stack)
  na : VA.ownBlock ≠ some F
  nb : VB.ownBlock ≠ some F
  nc : VC.ownBlock ≠ some F
  ab : ∀ k, VA.ownBlock = some k → VB.ownBlock ≠ some k
  ac : ∀ k, VA.ownBlock = some k → VC.ownBlock ≠ some k
  bc : ∀ k, VB.ownBlock = some k → VC.ownBlock ≠ some k
def FIs (w : World) (Y : Nat → Prop) (F : Nat) (vars arrs stack : List Int) : Prop :=
  ∃ VA VB VC, FSt w F VA VB VC vars arrs stack ∧ Y F ∧ (∀ k, VA.ownBlock = some k → Y k) ∧ (∀ k, VB.ownBlock = some k → Y k) ∧ (∀ k, VC.ownBlock = some k → Y k)
theorem FSt.kept {w w' : World} {F : Nat} {VA VB VC : Value} {vars arrs stack : List Int} {T : Nat → Prop} (h : FSt w F VA VB VC vars arrs stack) (hc : Chg T w w') (hF : ¬ T F) (hA : ∀ k, VA.ownBlock = some k → ¬ T k) (hB : ∀ k, VB.ownBlock = some k → ¬ T k) (hC : ∀ k, VC.ownBlock = some k → ¬ T k) : FSt w' F VA VB VC vars arrs stack :=
  ⟨hc.heap h.box hF, ownsRow_kept h.va hc hA, ownsRow_kept h.vb hc hB, ownsRow_kept h.vc hc hC, h.na, h.nb, h.nc, h.ab, h.ac, h.bc⟩
theorem FIs.kept {w w' : World} {Y T : Nat → Prop} {F : Nat} {vars arrs stack : List Int} (h : FIs w Y F vars arrs stack) (hc : Chg T w w') (hn : ∀ k, Y k → ¬ T k) : FIs w' Y F vars arrs stack := by
  obtain ⟨VA, VB, VC, h1, h2, h3, h4, h5⟩ := h
  exact ⟨VA, VB, VC, h1.kept hc (hn _ h2) (fun k hk => hn _ (h3 k hk)) (fun k hk => hn _ (h4 k hk)) (fun k hk => hn _ (h5 k hk)), h2, h3, h4, h5⟩
theorem FIs.mono {w : World} {Y Y' : Nat → Prop} {F : Nat} {vars arrs stack : List Int} (h : FIs w Y F vars arrs stack) (hm : ∀ k, Y k → k < w.heap.size → Y' k) : FIs w Y' F vars arrs stack := by
  obtain ⟨VA, VB, VC, h1, h2, h3, h4, h5⟩ := h
  exact ⟨VA, VB, VC, h1, hm _ h2 (lt_of_heap h1.box), fun k hk => hm _ (h3 k hk) (ownsRow_lt h1.va k hk), fun k hk => hm _ (h4 k hk) (ownsRow_lt h1.vb k hk), fun k hk => hm _ (h5 k hk) (ownsRow_lt h1.vc k hk)⟩
theorem FIs.drewN {w : World} {Y : Nat → Prop} {F : Nat} {vars arrs stack : List Int} (h : FIs w Y F vars arrs stack) (n : Nat) : FIs (w.drewN n) Y F vars arrs stack := h.kept ((Chg.refl (fun _ => False) w).drewN n) (fun _ _ x => x)

set_option maxHeartbeats 1000000 in
set_option maxRecDepth 100000 in
theorem pop_st {w : World} {F : Nat} {VA VB : Value} {A : Option Addr} {c : Nat} {vars arrs stack : List Int} {n : Int} (hs : FSt w F VA VB (.slice A (stack.length + 1) c) vars arrs (stack ++ [n])) (hl : stack.length ≤ 1099511627776) :
    Calls Tryd.prog 61 #[.pointer (some ⟨F, 0, none⟩)] w fun e w' => e = .returned (.int .i64 n) ∧ FSt w' F VA VB (.slice A stack.length c) vars arrs stack ∧ Chg (fun k => k = F) w w' := by
  have hvc := hs.vc
  obtain ⟨m, hm⟩ : ∃ m, m = stack.length := ⟨_, rfl⟩
  have hl1 : (stack ++ [n]).length = m + 1 := by simp [hm]
  rw [← hm] at hs hvc ⊢
  rw [hl1] at hvc
  obtain ⟨g, rfl, hg, hcap, _, hcell⟩ := ownsRow_cell hvc m (by omega)
  have hn := hcell (.int .i64 n) (by rw [nums_snoc, List.getElem?_append_right (by rw [nums_length, hm]; exact Nat.le_refl _), nums_length, hm]; simp)
  have c2 := cell_of_block hs.box 2
  have f2 := frozen_of_block hs.box 2
  simp at c2
  have hset := Chg.set_cell (w := w) ⟨F, 2, none⟩ (.slice (some ⟨g, 0, none⟩) m c)
  have hvc2 := ownsRow_short hvc m (by omega)
  have ht : (nums (stack ++ [n])).take m = nums stack := by
    rw [nums_snoc, List.take_append_of_le_length (by rw [nums_length]; omega), List.take_of_length_le (by rw [nums_length]; omega)]
  rw [ht] at hvc2
  have hfin : FSt (w.setCell ⟨F, 2, none⟩ (.slice (some ⟨g, 0, none⟩) m c)) F VA VB (.slice (some ⟨g, 0, none⟩) m c) vars arrs stack := by
    refine ⟨heap_set hs.box 2 _, ownsRow_kept hs.va hset (fun k hk e => hs.na (by rw [hk]; exact congrArg some e)), ownsRow_kept hs.vb hset (fun k hk e => hs.nb (by rw [hk]; exact congrArg some e)), ?_, hs.na, hs.nb, hs.nc, hs.ab, hs.ac, hs.bc⟩
    rw [← hm]
    exact ownsRow_kept hvc2 hset (fun k hk e => hs.nc (by have e : k = F := e; rw [← e]; exact hk))
  have HF := Lib.hid (And.intro hfin hset)
  have hml : m ≤ 1099511627776 := by omega
  clear hfin hset hvc hvc2 hs ht hcell hl hl1 hm
  go_enter Tryd.func61, Tryd.ntmps61
  go_wp2_with fail
  go_ret
  exact ⟨rfl, HF.out.1, HF.out.2⟩
theorem pop_any {w : World} {Y : Nat → Prop} {F : Nat} {vars arrs stack : List Int} {n : Int} (h : FIs w Y F vars arrs (stack ++ [n])) (hl : stack.length ≤ 1099511627776) :
    Calls Tryd.prog 61 #[.pointer (some ⟨F, 0, none⟩)] w fun e w' => e = .returned (.int .i64 n) ∧ FIs w' Y F vars arrs stack ∧ Chg (fun k => k = F) w w' := by
  obtain ⟨VA, VB, VC, hs, hY1, hY2, hY3, hY4⟩ := h
  obtain ⟨_, A, c, rfl⟩ := ownsRow_slice hs.vc
  have e : (stack ++ [n]).length = stack.length + 1 := by simp
  rw [e] at hs hY4
  refine (pop_st hs hl).mono ?_
  rintro e w' ⟨rfl, h1, h2⟩
  exact ⟨rfl, ⟨VA, VB, _, h1, hY1, hY2, hY3, fun k hk => hY4 k (by cases A with | none => cases hk | some a => exact hk)⟩, h2⟩
/-- a variable, an array's number is set -/
theorem FSt.setvar {w : World} {F : Nat} {VB VC : Value} {b c : Nat} {vars arrs stack : List Int} (h : FSt w F (.slice (some ⟨b, 0, none⟩) vars.length c) VB VC vars arrs stack) (j : Nat) (hj : j < vars.length) (x : Int) :
    FSt (w.setCell ⟨b, j, none⟩ (.int .i64 x)) F (.slice (some ⟨b, 0, none⟩) vars.length c) VB VC (vars.set j x) arrs stack := by
  have hs := Chg.set_cell (w := w) ⟨b, j, none⟩ (.int .i64 x)
  refine ⟨hs.heap h.box (fun e => h.na (congrArg some e.symm)), ?_, ownsRow_kept h.vb hs (fun k hk e => h.ab k (congrArg some e.symm) hk), ownsRow_kept h.vc hs (fun k hk e => h.ac k (congrArg some e.symm) hk), h.na, h.nb, h.nc, h.ab, h.ac, h.bc⟩
  rw [List.length_set, nums_set]
  exact ownsRow_set h.va j (by omega) _
theorem FSt.setarr {w : World} {F : Nat} {VA VC : Value} {b c : Nat} {vars arrs stack : List Int} (h : FSt w F VA (.slice (some ⟨b, 0, none⟩) arrs.length c) VC vars arrs stack) (j : Nat) (hj : j < arrs.length) (x : Int) :
    FSt (w.setCell ⟨b, j, none⟩ (.int .i64 x)) F VA (.slice (some ⟨b, 0, none⟩) arrs.length c) VC vars (arrs.set j x) stack := by
  have hs := Chg.set_cell (w := w) ⟨b, j, none⟩ (.int .i64 x)
  refine ⟨hs.heap h.box (fun e => h.nb (congrArg some e.symm)), ownsRow_kept h.va hs (fun k hk e => h.ab k hk (congrArg some e.symm)), ?_, ownsRow_kept h.vc hs (fun k hk e => h.bc k (congrArg some e.symm) hk), h.na, h.nb, h.nc, h.ab, h.ac, h.bc⟩
  rw [List.length_set, nums_set]
  exact ownsRow_set h.vb j (by omega) _

set_option maxHeartbeats 1000000 in
set_option maxRecDepth 100000 in
theorem push_any {w : World} {Y : Nat → Prop} {F : Nat} {vars arrs stack : List Int} (n : Int) (h : FIs w Y F vars arrs stack) (hl : stack.length ≤ 1099511627776) :
    Calls Tryd.prog 73 #[.pointer (some ⟨F, 0, none⟩), .int .i64 n] w fun e w' => e = .returned (.tuple #[]) ∧ FIs w' (fun k => Y k ∨ w.heap.size ≤ k) F vars arrs (stack ++ [n]) ∧ Chg Y w w' := by
  obtain ⟨VA, VB, VC, hs, hYF, hYA, hYB, hYC⟩ := h
  have hvc := hs.vc
  obtain ⟨_, A, c, rfl⟩ := ownsRow_slice hvc
  obtain ⟨m, hm⟩ : ∃ m, m = stack.length := ⟨_, rfl⟩
  rw [← hm] at hvc hl hs hYC
  have c2 := cell_of_block hs.box 2
  simp at c2
  obtain ⟨wx, hwx⟩ : ∃ wx, wx = w.alloc (.cells #[.int .i64 n] 2) := ⟨_, rfl⟩
  have hcx : Chg (fun _ => False) w wx := by rw [hwx]; exact (Chg.refl _ _).alloc _
  have HROW : Hid (wx.ownsRow 0 2 1 (.slice A m c) m (nums stack)) := Lib.hid (ownsRow_kept hvc hcx (fun _ _ x => x))
  have HNEW : Hid (∀ (j : Nat) u, ([.int .i64 n] : List Value)[j]? = some u → wx.cell? ((⟨w.heap.size, 0, none⟩ : Addr).add j) = some u) := Lib.hid (World.news_of_block (cs := #[.int .i64 n]) (t := 2) (fr := (0, 0)) (by rw [hwx]; exact heap_new _ _))
  have HSZ : Hid (wx.heap.size = w.heap.size + 1) := Lib.hid (by rw [hwx]; simp)
  have HSX := Lib.hid (hs.kept hcx (fun x => x) (fun _ _ x => x) (fun _ _ x => x) (fun _ _ x => x))
  have HCX := Lib.hid hcx
  have HWX := Lib.hid hwx
  have HY := Lib.hid (And.intro hYF (And.intro hYA (And.intro hYB hYC)))
  have HLT := Lib.hid (And.intro (lt_of_heap hs.box) (And.intro (ownsRow_lt hs.va) (And.intro (ownsRow_lt hs.vb) (ownsRow_lt hs.vc))))
  have HM := Lib.hid hm
  obtain ⟨i0, hi, hz0, hz1, hz2⟩ := info_parts infoL
  clear hs hYF hYA hYB hYC hvc hcx hwx hm
  go_enter Tryd.func73, Tryd.ntmps73
  go_wp2_with (at_builtin; rw [← HWX.out]; refine wpList_append_lies _ rfl _ _ _ rfl 0 2 i0 _ 1 8 Tryd.underlying25 hi hz0 hz1 hz2 rfl (by omega) (.slice A m c) m (nums stack) rfl HROW.out ⟨w.heap.size, 0, none⟩ 1 1 [.int .i64 n] rfl rfl HNEW.out (by simp [Value.oneCell']) (by omega) (by unfold maxLen; omega) (by omega) (by omega) (w.heap.size + 1) HSZ.out ?_; intro g cap w2 hown2 hgrow2 hat2 hlt2; have hc2 := Chg.of_grown hgrow2; have hb2 := hc2.heap HSX.out.box (fun e => HSX.out.nc e); have k2 := cell_of_block hb2 2; have f2 := frozen_of_block hb2 2; simp at k2; have HB2 := Lib.hid hb2; have HC2 := Lib.hid hc2; clear hb2 hc2)
  go_end0
  have hset := Chg.set_cell (w := w2) ⟨F, 2, none⟩ (.slice (some ⟨g, 0, none⟩) (m + 1) cap)
  have hat : (Value.slice A m c).ownBlock = some g ∨ g = w.heap.size + 1 := hat2
  have hgF : ¬ g = F := fun e => by
    rcases hat with h | h
    · exact HSX.out.nc (by rw [h, e])
    · have := HLT.out.1; omega
  have hgA : ∀ k, VA.ownBlock = some k → ¬ g = k := fun k hk e => by
    rcases hat with h | h
    · exact HSX.out.ac k hk (by rw [h, e])
    · have := HLT.out.2.1 k hk; omega
  have hgB : ∀ k, VB.ownBlock = some k → ¬ g = k := fun k hk e => by
    rcases hat with h | h
    · exact HSX.out.bc k hk (by rw [h, e])
    · have := HLT.out.2.2.1 k hk; omega
  refine ⟨rfl, ⟨VA, VB, .slice (some ⟨g, 0, none⟩) (m + 1) cap, ⟨heap_set HB2.out 2 _, ?_, ?_, ?_, HSX.out.na, HSX.out.nb, ?_, HSX.out.ab, ?_, ?_⟩, .inl HY.out.1, fun k hk => .inl (HY.out.2.1 k hk), fun k hk => .inl (HY.out.2.2.1 k hk), fun k hk => ?_⟩, ?_⟩
  · exact ownsRow_kept (ownsRow_kept HSX.out.va HC2.out (fun k hk e => HSX.out.ac k hk e)) hset (fun k hk e => HSX.out.na (by rw [hk]; exact congrArg some e))
  · exact ownsRow_kept (ownsRow_kept HSX.out.vb HC2.out (fun k hk e => HSX.out.bc k hk e)) hset (fun k hk e => HSX.out.nb (by rw [hk]; exact congrArg some e))
  · rw [nums_snoc, List.length_append, ← HM.out]
    exact ownsRow_kept hown2 hset (fun k hk e => hgF (by
      have hk : some g = some k := hk
      injection hk with hk
      rw [hk]; exact e))
  · intro e
    have e : some g = some F := e
    injection e with e
    exact hgF e
  · intro k hk e
    have e : some g = some k := e
    injection e with e
    exact hgA k hk e
  · intro k hk e
    have e : some g = some k := e
    injection e with e
    exact hgB k hk e
  · have hk : some g = some k := hk
    injection hk with hk
    subst hk
    rcases hat with h | h
    · exact .inl (HY.out.2.2.2 g h)
    · exact .inr (by omega)
  · refine (HCX.out.trans HC2.out (T := Y) (fun _ _ x => x.elim) (fun k _ e => HY.out.2.2.2 k e)).then ?_
    exact hset.mono (fun k _ e => by rw [e]; exact HY.out.1)
end Go.Proofs.YtdpimkbdieafgaaDoor
