/- interp: run. -/
import Derived.Test.YtdpimkbdieafgaaDoorIntI
import Derived.WalkMore
namespace Go.Proofs.YtdpimkbdieafgaaDoor
set_option linter.unusedVariables false
set_option linter.unusedSimpArgs false
open Go.RowKit

set_option maxHeartbeats 4000000 in
set_option maxRecDepth 100000 in
theorem does_call {W0 w : World} {X Y : Nat → Prop} {m : Nat} {V : Value} {d : Nat} {g : GS} {F : Nat} {f : Fr} (h : Ms W0 w X Y m V d g F f.vars f.arrs f.stack) {fs : List FnR} {μ : Nat} (hC : Ctx W0 fs V) (hH : CallH W0 fs V m μ) (hg : GOk g) (hμ : (g.fuel - g.now).toNat < μ) (fn' : Nat) (nn : Int) (hf : fn' < fs.length) (hd : d ≤ 65) (p : Nat) (hp : (p : Int) = (f.stack.length : Int) - fs[fn'].ps) (hps : 0 ≤ fs[fn'].ps) (hl : f.stack.length ≤ 1048576) :
    Calls Tryd.prog 62 #[.pointer (some ⟨m, 0, none⟩), .pointer (some ⟨F, 0, none⟩), .agg #[.int .i64 17, .int .i64 (fn' : Int), .int .i64 nn]] w (CallsP W0 w X Y m V d g fs F fn' f.vars f.arrs f.stack p) := by
  obtain ⟨fn, at_, vars, arrs, stack⟩ := f
  simp only at h hp hl
  obtain ⟨w0, hw0⟩ : ∃ w0, w0 = w.alloc (.cells #[.int .i64 17, .int .i64 (fn' : Int), .int .i64 nn] 44) := ⟨_, rfl⟩
  obtain ⟨P0, hP0⟩ : ∃ P0, P0 = w.heap.size := ⟨_, rfl⟩
  have hc0 : Chg (fun _ => False) w w0 := by rw [hw0]; exact (Chg.refl _ _).alloc _
  have hi0 : w0.heap[P0]? = some (.cells #[.int .i64 17, .int .i64 (fn' : Int), .int .i64 nn] 44 (0, 0)) := by rw [hw0]; exact heap_new' hP0.symm
  obtain ⟨hm0, hg0⟩ := h.still hc0
  have HM0 := Lib.hid hm0
  have HG0 := Lib.hid hg0
  have HI0 := Lib.hid hi0
  have HWE := Lib.hid (And.intro hw0 hP0)
  have HPN : Hid (¬ X P0 ∧ ¬ Y P0) := Lib.hid ⟨fun e => by have := (h.lx _ e).2; omega, fun e => by have := (h.ly _ e).2; omega⟩
  have i0 := cell_of_block hi0 0
  have i1 := cell_of_block hi0 1
  have i2 := cell_of_block hi0 2
  simp at i0 i1 i2
  have CA := Lib.hid (calls_any hC hH hm0 hg hμ hf hd p hp hps hl)
  clear h hw0 hP0 hc0 hi0 hm0 hg0
  go_enter Tryd.func62, Tryd.ntmps62
  go_upto_region 1 with fail
  rw [← HWE.out.1, ← HWE.out.2]
  clear hp hps hl hμ hg hH hC
  go_wp2_with fail
  refine CA.out.mono ?_; rintro e w1 ⟨X1, Y1, n1, e1, g1, rfl, hm1, hg1, hO, hok⟩
  have HF := Lib.hid (And.intro hm1 (And.intro (HG0.out.trans hg1) (And.intro hO hok)))
  clear hm1 hg1 hO hok CA i0 i1 i2
  go_wp2_with fail
  go_ret
  exact ⟨X1, Y1, n1, e1, g1, rfl, HF.out⟩

/-! ### run begins -/
/-- what stands behind the frame's making -/
structure Begun (w wx : World) (F GA : Nat) (VB : Value) (vs ar : Nat) : Prop where
  st : FSt wx F (.slice (some ⟨GA, 0, none⟩) vs vs) VB (.slice none 0 0) (List.replicate vs 0) (List.replicate ar (-1)) []
  made : wx.heap[GA]? = some (.cells (madeCells #[.int .i64 0] vs) 2 (0, 0))
  nf : w.heap.size ≤ F
  na : w.heap.size ≤ GA
  nb : ∀ k, VB.ownBlock = some k → w.heap.size ≤ k
  chg : Chg (fun _ => False) w wx
theorem made_row {w : World} {GA vs : Nat} (h : w.heap[GA]? = some (.cells (madeCells #[.int .i64 0] vs) 2 (0, 0))) (hv : vs ≤ 64) : w.ownsRow 0 2 1 (.slice (some ⟨GA, 0, none⟩) vs vs) vs (nums (List.replicate vs 0)) := by
  refine ⟨by simp [nums], .inr ⟨GA, vs, _, rfl, Nat.zero_le _, h, Nat.le_refl _, by unfold maxLen; omega, by rw [made_size]; omega, ?_⟩⟩
  have := nums_over vs [] (by simp)
  simp only [nums, List.map_nil, over, List.take_zero, List.nil_append, List.length_nil, Nat.sub_zero, List.drop_zero] at this
  rw [Nat.mul_one, List.take_of_length_le (by simp [made_size])]
  simpa [nums] using this
end Go.Proofs.YtdpimkbdieafgaaDoor
