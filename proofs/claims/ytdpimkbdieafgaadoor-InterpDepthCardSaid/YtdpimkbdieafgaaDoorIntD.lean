/- interp: does: what does not call, nor looks at arrays. -/
import Derived.Test.YtdpimkbdieafgaaDoorIntM
import Derived.Test.YtdpimkbdieafgaaDoorOrd
namespace Go.Proofs.YtdpimkbdieafgaaDoor
set_option linter.unusedVariables false
set_option linter.unusedSimpArgs false
open Go.RowKit

def DoesP (W0 w : World) (X Y : Nat → Prop) (m : Nat) (V : Value) (d : Nat) (F : Nat) (i : InsR) (f : Fr) (g : GS) (e : Ending) (w' : World) : Prop :=
  ∃ X' Y' vars arrs stack, e = .returned (.int .i64 (doesv i f g).1) ∧ Ms W0 w' X' Y' m V d (doesv i f g).2.2 F vars arrs stack ∧ Gr w X Y w' X' Y' ∧ ((doesv i f g).1 = 0 → vars = (doesv i f g).2.1.vars ∧ arrs = (doesv i f g).2.1.arrs ∧ stack = (doesv i f g).2.1.stack)
/-- the frame's cells have changed, in a world behind some that keeps it -/
theorem FIs.of_st {w : World} {Y : Nat → Prop} {F : Nat} {VA VB VC : Value} {vars arrs stack : List Int} (h : FSt w F VA VB VC vars arrs stack) (h1 : Y F) (h2 : ∀ k, VA.ownBlock = some k → Y k) (h3 : ∀ k, VB.ownBlock = some k → Y k) (h4 : ∀ k, VC.ownBlock = some k → Y k) : FIs w (fun k => Y k ∨ w.heap.size ≤ k) F vars arrs stack :=
  ⟨VA, VB, VC, h, .inl h1, fun k hk => .inl (h2 k hk), fun k hk => .inl (h3 k hk), fun k hk => .inl (h4 k hk)⟩
theorem own_len {A : Option Addr} {n n' c c' : Nat} {Y : Nat → Prop} (h : ∀ k, (Value.slice A n c).ownBlock = some k → Y k) : ∀ k, (Value.slice A n' c').ownBlock = some k → Y k := fun k hk => h k (by cases A with | none => cases hk | some a => exact hk)

/-! ### next -/
def NextP (w : World) (m o : Nat) (V : Value) (l : List Int) (e : Ending) (w' : World) : Prop := e = .returned (.int .i64 (l.headD 0)) ∧ ((l = [] ∧ w' = w) ∨ ∃ V', w' = w.setCell ⟨m, o, none⟩ V' ∧ (∀ W, NumSrc W V l → NumSrc W V' l.tail))
set_option maxRecDepth 100000 in
theorem next_any {w : World} {m o : Nat} {V : Value} {l : List Int} (hc : w.cell? ⟨m, o, none⟩ = some V) (hf : w.frozen? ⟨m, o, none⟩ = false) (hl : NumSrc w V l) :
    Calls Tryd.prog 75 #[.pointer (some ⟨m, o, none⟩)] w fun e w' => NextP w m o V l e w' := by
  obtain ⟨A, c, rfl, h1, h2, h3⟩ := hl
  cases l with
  | nil =>
    simp only [List.length_nil] at hc
    clear h3
    go_enter Tryd.func75, Tryd.ntmps75
    go_wp2_with fail
    go_ret
    exact ⟨rfl, .inl ⟨rfl, rfl⟩⟩
  | cons x l =>
    obtain ⟨b, off, rfl, h4⟩ := h3 (by simp)
    have hx := h4 0 x rfl
    simp only [Nat.add_zero] at hx
    obtain ⟨n, hn⟩ : ∃ n, n = l.length := ⟨_, rfl⟩
    rw [List.length_cons, ← hn] at hc h1
    have hw : ∀ W, NumSrc W (.slice (some ⟨b, off, none⟩) (n + 1) c) (x :: l) → NumSrc W (.slice (if c = 1 then some ⟨b, off, none⟩ else some ⟨b, off + 1, none⟩) n (c - 1)) l := fun W h => by
      obtain ⟨A', c', e, g1, g2, g3⟩ := h
      injection e with e1 e2 e3
      subst e1 e3
      refine ⟨_, _, by rw [hn], by simp at g1; omega, by omega, fun h0 => ?_⟩
      obtain ⟨b', off', e, g4⟩ := g3 (by simp)
      injection e with e
      injection e with ea eb
      subst ea eb
      refine ⟨b, off + 1, by rw [if_neg (by omega)], fun j y hy => ?_⟩
      have := g4 (j + 1) y (by simpa using hy)
      rwa [show off + (j + 1) = off + 1 + j by omega] at this
    rw [List.length_cons, ← hn]
    have hcm : c ≤ 9223372036854775807 := by simpa [maxLen] using h2
    by_cases hc1 : c = 1
    · subst hc1
      rw [if_pos rfl] at hw
      obtain rfl : n = 0 := by omega
      have HW := Lib.hid hw
      clear h3 h4 hn hw
      go_enter Tryd.func75, Tryd.ntmps75
      go_wp2_with fail
      go_ret
      exact ⟨rfl, .inr ⟨_, rfl, fun W h => HW.out W h⟩⟩
    · rw [if_neg hc1] at hw
      have HW := Lib.hid hw
      clear h3 h4 hn hw
      go_enter Tryd.func75, Tryd.ntmps75
      go_wp2_with fail
      go_ret
      exact ⟨rfl, .inr ⟨_, rfl, fun W h => HW.out W h⟩⟩
set_option maxHeartbeats 4000000 in
set_option maxRecDepth 100000 in
theorem does_push {W0 w : World} {X Y : Nat → Prop} {m : Nat} {V : Value} {d : Nat} {g : GS} {F : Nat} {f : Fr} (h : Ms W0 w X Y m V d g F f.vars f.arrs f.stack) (a nn : Int) (hl : f.stack.length ≤ 1099511627776) :
    Calls Tryd.prog 62 #[.pointer (some ⟨m, 0, none⟩), .pointer (some ⟨F, 0, none⟩), .agg #[.int .i64 1, .int .i64 a, .int .i64 nn]] w (DoesP W0 w X Y m V d F ⟨1, a, nn⟩ f g) := by
  obtain ⟨fn, at_, vars, arrs, stack⟩ := f
  simp only at h hl
  obtain ⟨w0, hw0⟩ : ∃ w0, w0 = w.alloc (.cells #[.int .i64 1, .int .i64 a, .int .i64 nn] 44) := ⟨_, rfl⟩
  obtain ⟨P0, hP0⟩ : ∃ P0, P0 = w.heap.size := ⟨_, rfl⟩
  have hc0 : Chg (fun _ => False) w w0 := by rw [hw0]; exact (Chg.refl _ _).alloc _
  have hi0 : w0.heap[P0]? = some (.cells #[.int .i64 1, .int .i64 a, .int .i64 nn] 44 (0, 0)) := by rw [hw0]; exact heap_new' hP0.symm
  obtain ⟨hm0, hg0⟩ := h.still hc0
  have HM0 := Lib.hid hm0
  have HG0 := Lib.hid hg0
  have HI0 := Lib.hid hi0
  have HWE := Lib.hid (And.intro hw0 hP0)
  have HPN : Hid (¬ X P0 ∧ ¬ Y P0) := Lib.hid ⟨fun e => by have := (h.lx _ e).2; omega, fun e => by have := (h.ly _ e).2; omega⟩
  have i0 := cell_of_block hi0 0
  have i1 := cell_of_block hi0 1
  have i2 := cell_of_block hi0 2
  simp at i0 i1 i2
  have CP := Lib.hid (push_any nn hm0.fi hl)
  clear h hw0 hP0 hc0 hi0 hm0 hg0
  go_enter Tryd.func62, Tryd.ntmps62
  go_upto_region 1 with fail
  rw [← HWE.out.1, ← HWE.out.2]
  go_wp2_with fail
  refine CP.out.mono ?_; rintro e w1 ⟨rfl, hf, hc⟩
  obtain ⟨Y', hm1, hg1⟩ := HM0.out.frame hf hc
  have HF := Lib.hid (And.intro hm1 (HG0.out.trans hg1))
  clear hf hc hm1 hg1
  go_wp2_with fail
  go_ret
  exact ⟨X, Y', _, _, _, rfl, HF.out.1, HF.out.2, fun _ => ⟨rfl, rfl, rfl⟩⟩
set_option maxHeartbeats 4000000 in
set_option maxRecDepth 100000 in
theorem does_load {W0 w : World} {X Y : Nat → Prop} {m : Nat} {V : Value} {d : Nat} {g : GS} {F : Nat} {f : Fr} (h : Ms W0 w X Y m V d g F f.vars f.arrs f.stack) (j : Nat) (nn : Int) (hj : j < f.vars.length) (hv : f.vars.length ≤ 1048576) (hl : f.stack.length ≤ 1099511627776) :
    Calls Tryd.prog 62 #[.pointer (some ⟨m, 0, none⟩), .pointer (some ⟨F, 0, none⟩), .agg #[.int .i64 2, .int .i64 (j : Int), .int .i64 nn]] w (DoesP W0 w X Y m V d F ⟨2, (j : Int), nn⟩ f g) := by
  obtain ⟨fn, at_, vars, arrs, stack⟩ := f
  simp only at h hj hv hl
  obtain ⟨w0, hw0⟩ : ∃ w0, w0 = w.alloc (.cells #[.int .i64 2, .int .i64 (j : Int), .int .i64 nn] 44) := ⟨_, rfl⟩
  obtain ⟨P0, hP0⟩ : ∃ P0, P0 = w.heap.size := ⟨_, rfl⟩
  have hc0 : Chg (fun _ => False) w w0 := by rw [hw0]; exact (Chg.refl _ _).alloc _
  have hi0 : w0.heap[P0]? = some (.cells #[.int .i64 2, .int .i64 (j : Int), .int .i64 nn] 44 (0, 0)) := by rw [hw0]; exact heap_new' hP0.symm
  obtain ⟨hm0, hg0⟩ := h.still hc0
  have HM0 := Lib.hid hm0
  have HG0 := Lib.hid hg0
  have HI0 := Lib.hid hi0
  have HWE := Lib.hid (And.intro hw0 hP0)
  have HPN : Hid (¬ X P0 ∧ ¬ Y P0) := Lib.hid ⟨fun e => by have := (h.lx _ e).2; omega, fun e => by have := (h.ly _ e).2; omega⟩
  have i0 := cell_of_block hi0 0
  have i1 := cell_of_block hi0 1
  have i2 := cell_of_block hi0 2
  simp at i0 i1 i2
  obtain ⟨VA, VB, VC, hs, hY1, hY2, hY3, hY4⟩ := hm0.fi
  obtain ⟨_, A, c, rfl⟩ := ownsRow_slice hs.va
  obtain ⟨b, rfl, hb, hcap, hfz, hcell⟩ := ownsRow_cell hs.va j hj
  have hx := hcell _ (nums_get vars j hj)
  have c0 := cell_of_block hs.box 0
  simp at c0
  obtain ⟨x, hxe⟩ : ∃ x, x = vars[j] := ⟨_, rfl⟩
  rw [← hxe] at hx
  obtain ⟨n, hn⟩ : ∃ n, n = vars.length := ⟨_, rfl⟩
  have hjn : j < n := by omega
  rw [← hn] at c0 hcap
  have HN := Lib.hid hn
  have HXE := Lib.hid hxe
  have HS := Lib.hid hs
  have HY := Lib.hid (And.intro hY1 (And.intro hY2 (And.intro hY3 hY4)))
  have hnb : n ≤ 1048576 := by omega
  clear hxe hn

  clear h hw0 hP0 hc0 hi0 hm0 hg0
  go_enter Tryd.func62, Tryd.ntmps62
  go_upto_region 1 with fail
  rw [← HWE.out.1, ← HWE.out.2]
  have hjl := hj
  go_upto_region 6 with fail
  obtain ⟨wd, hwd⟩ : ∃ wd, wd = w0.drew := ⟨_, rfl⟩
  have hS : wd.cell? ⟨F, 0, none⟩ = some (.slice (some ⟨b, 0, none⟩) n c) ∧ wd.cell? ⟨b, j, none⟩ = some (.int .i64 x) ∧ wd.cell? ⟨P0, 1, none⟩ = some (.int .i64 (j : Int)) := by rw [hwd]; exact ⟨c0, hx, i1⟩
  obtain ⟨hmd, hgd⟩ := HM0.out.still (w' := wd) (by rw [hwd]; exact (Chg.refl _ _).drew)
  have CP := push_any x hmd.fi hl
  refine wp_region_ord (S := fun w' => w'.cell? ⟨F, 0, none⟩ = some (.slice (some ⟨b, 0, none⟩) n c) ∧ w'.cell? ⟨b, j, none⟩ = some (.int .i64 x) ∧ w'.cell? ⟨P0, 1, none⟩ = some (.int .i64 (j : Int))) (N := fun i => i != 9) (by kernel_rfl) [(0, true), (1, true), (2, true), (3, true), (4, true), (5, true), (6, true), (7, true), (8, true), (9, false)] (by kernel_rfl) ?_
  rw [← hwd]
  have HGD := Lib.hid (HG0.out.trans hgd)
  have HMD := Lib.hid hmd
  clear hwd hmd hgd c0 hx i0 i1 i2
  iterate 9 (refine ord_look rfl hS rfl (by intro w hS; obtain ⟨p0, p1, p2⟩ := hS; go_simp; with_reducible rfl) (fun c a w h => h) ?_; simp only [Act.put, List.setIfInBounds_toArray, List.set_cons_succ, List.set_cons_zero])
  refine ord_act rfl rfl (fun K hK => ?_)
  refine wp_call 73 _ _ Tryd.func73 rfl (by kernel_rfl) _ _ rfl #[.pointer (some ⟨F, 0, none⟩), .int .i64 x] (by simp [Act.eval]) (R := fun v w' => v = .tuple #[] ∧ FIs w' (fun k => Y k ∨ wd.heap.size ≤ k) F vars arrs (stack ++ [x]) ∧ Chg Y wd w') (calls_ret CP (by rintro e w' ⟨rfl, h1, h2⟩; exact ⟨_, rfl, rfl, h1, h2⟩)) ?_
  rintro v w1 ⟨rfl, hf, hc⟩
  refine hK _ _ ⟨(fun h => by cases h), ?_⟩
  clear hK K
  try simp only [Act.put, List.setIfInBounds_toArray, List.set_cons_succ, List.set_cons_zero]
  refine ord_end ?_
  obtain ⟨Y', hm1, hg1⟩ := HMD.out.frame hf hc
  have HF := Lib.hid (And.intro hm1 (HGD.out.trans hg1))
  clear hf hc hm1 hg1 hS CP
  go_wp2_with fail
  go_ret
  have ex : vars.getD j 0 = x := by rw [HXE.out, List.getD_eq_getElem?_getD, List.getElem?_eq_getElem (by rw [← HN.out]; exact hjn)]; rfl
  refine ⟨X, Y', _, _, _, rfl, HF.out.1, HF.out.2, fun _ => ⟨rfl, rfl, ?_⟩⟩
  show stack ++ [x] = stack ++ [vars.getD ((j : Int)).toNat 0]
  rw [show ((j : Int)).toNat = j by omega, ex]
set_option maxHeartbeats 4000000 in
set_option maxRecDepth 100000 in
theorem does_store {W0 w : World} {X Y : Nat → Prop} {m : Nat} {V : Value} {d : Nat} {g : GS} {F : Nat} {f : Fr} (h : Ms W0 w X Y m V d g F f.vars f.arrs f.stack) (j : Nat) (nn : Int) (s : List Int) (y : Int) (hst : f.stack = s ++ [y]) (hj : j < f.vars.length) (hv : f.vars.length ≤ 1048576) (hl : f.stack.length ≤ 1099511627776) :
    Calls Tryd.prog 62 #[.pointer (some ⟨m, 0, none⟩), .pointer (some ⟨F, 0, none⟩), .agg #[.int .i64 3, .int .i64 (j : Int), .int .i64 nn]] w (DoesP W0 w X Y m V d F ⟨3, (j : Int), nn⟩ f g) := by
  obtain ⟨fn, at_, vars, arrs, stack⟩ := f
  simp only at h hst hj hv hl
  obtain ⟨w0, hw0⟩ : ∃ w0, w0 = w.alloc (.cells #[.int .i64 3, .int .i64 (j : Int), .int .i64 nn] 44) := ⟨_, rfl⟩
  obtain ⟨P0, hP0⟩ : ∃ P0, P0 = w.heap.size := ⟨_, rfl⟩
  have hc0 : Chg (fun _ => False) w w0 := by rw [hw0]; exact (Chg.refl _ _).alloc _
  have hi0 : w0.heap[P0]? = some (.cells #[.int .i64 3, .int .i64 (j : Int), .int .i64 nn] 44 (0, 0)) := by rw [hw0]; exact heap_new' hP0.symm
  obtain ⟨hm0, hg0⟩ := h.still hc0
  have HM0 := Lib.hid hm0
  have HG0 := Lib.hid hg0
  have HI0 := Lib.hid hi0
  have HWE := Lib.hid (And.intro hw0 hP0)
  have HPN : Hid (¬ X P0 ∧ ¬ Y P0) := Lib.hid ⟨fun e => by have := (h.lx _ e).2; omega, fun e => by have := (h.ly _ e).2; omega⟩
  have i0 := cell_of_block hi0 0
  have i1 := cell_of_block hi0 1
  have i2 := cell_of_block hi0 2
  simp at i0 i1 i2
  subst hst
  obtain ⟨VA, VB, VC, hs, hY1, hY2, hY3, hY4⟩ := hm0.fi
  obtain ⟨_, A, c, rfl⟩ := ownsRow_slice hs.va
  obtain ⟨b, rfl, hb, hcap, hfz, hcell⟩ := ownsRow_cell hs.va j hj
  have hx := hcell _ (nums_get vars j hj)
  have c0 := cell_of_block hs.box 0
  simp at c0
  obtain ⟨x, hxe⟩ : ∃ x, x = vars[j] := ⟨_, rfl⟩
  rw [← hxe] at hx
  obtain ⟨n, hn⟩ : ∃ n, n = vars.length := ⟨_, rfl⟩
  have hjn : j < n := by omega
  rw [← hn] at c0 hcap
  have HN := Lib.hid hn
  have HXE := Lib.hid hxe
  have HS := Lib.hid hs
  have HY := Lib.hid (And.intro hY1 (And.intro hY2 (And.intro hY3 hY4)))
  have hnb : n ≤ 1048576 := by omega
  clear hxe hn
  obtain ⟨_, A3, c3, rfl⟩ := ownsRow_slice hs.vc
  have esl : (s ++ [y]).length = s.length + 1 := by simp
  rw [esl] at hs hl hY4
  have HYC := Lib.hid hY4
  have CP := Lib.hid (pop_st (hs.kept ((Chg.refl (fun _ => False) w0).drew) (fun x => x) (fun _ _ x => x) (fun _ _ x => x) (fun _ _ x => x)) (by omega))
  clear h hw0 hP0 hc0 hi0 hm0 hg0
  go_enter Tryd.func62, Tryd.ntmps62
  go_upto_region 1 with fail
  rw [← HWE.out.1, ← HWE.out.2]
  go_upto_region 8 with fail
  obtain ⟨wd, hwd⟩ : ∃ wd, wd = w0.drew := ⟨_, rfl⟩
  have hS : wd.cell? ⟨F, 0, none⟩ = some (.slice (some ⟨b, 0, none⟩) n c) ∧ wd.cell? ⟨P0, 1, none⟩ = some (.int .i64 (j : Int)) := by rw [hwd]; exact ⟨c0, i1⟩
  obtain ⟨hmd, hgd⟩ := HM0.out.still (w' := wd) (by rw [hwd]; exact (Chg.refl _ _).drew)
  refine wp_region_ord (S := fun w' => w'.cell? ⟨F, 0, none⟩ = some (.slice (some ⟨b, 0, none⟩) n c) ∧ w'.cell? ⟨P0, 1, none⟩ = some (.int .i64 (j : Int))) (N := fun i => i != 9) (by kernel_rfl) [(0, true), (1, true), (2, true), (3, true), (4, true), (5, true), (6, true), (7, false), (8, true), (9, false)] (by kernel_rfl) ?_
  rw [← hwd]
  rw [← hwd] at CP
  have HGD := Lib.hid (HG0.out.trans hgd)
  have HMD := Lib.hid hmd
  have HI1 : Hid (wd.cell? ⟨P0, 1, none⟩ = some (.int .i64 (j : Int))) := Lib.hid hS.2
  clear hwd hmd hgd c0 hx i0 i1 i2
  iterate 7 (refine ord_look rfl hS rfl (by intro w hS; obtain ⟨p0, p1⟩ := hS; go_simp; with_reducible rfl) (fun c a w h => h) ?_; simp only [Act.put, List.setIfInBounds_toArray, List.set_cons_succ, List.set_cons_zero])
  refine ord_act rfl rfl (fun K hK => ?_)
  refine wp_call 61 _ _ Tryd.func61 rfl (by kernel_rfl) _ _ rfl #[.pointer (some ⟨F, 0, none⟩)] (by simp [Act.eval]) (R := fun v w' => v = .int .i64 y ∧ FSt w' F (.slice (some ⟨b, 0, none⟩) vars.length c) VB (.slice A3 s.length c3) vars arrs s ∧ Chg (fun k => k = F) wd w') (calls_ret CP.out (by rintro e w' ⟨rfl, h1, h2⟩; exact ⟨_, rfl, rfl, h1, h2⟩)) ?_
  rintro v w1 ⟨rfl, hf, hc⟩
  have d0 := cell_of_block hf.box 0
  simp at d0
  rw [← HN.out] at d0
  have hS1 : w1.cell? ⟨F, 0, none⟩ = some (.slice (some ⟨b, 0, none⟩) n c) ∧ w1.cell? ⟨P0, 1, none⟩ = some (.int .i64 (j : Int)) := ⟨d0, hc.cell HI1.out (fun e => HPN.out.2 (by have e : P0 = F := e; rw [e]; exact HY.out.1))⟩
  refine hK _ _ ⟨fun _ => hS1, ?_⟩
  clear hK K hS
  have hS := hS1
  try simp only [Act.put, List.setIfInBounds_toArray, List.set_cons_succ, List.set_cons_zero]
  iterate 1 (refine ord_look rfl hS rfl (by intro w hS; obtain ⟨p0, p1⟩ := hS; go_simp; with_reducible rfl) (fun c a w h => h) ?_; simp only [Act.put, List.setIfInBounds_toArray, List.set_cons_succ, List.set_cons_zero])
  refine ord_act rfl rfl (fun K hK => ?_)
  obtain ⟨b', e1, _, _, hfz1, hcell1⟩ := ownsRow_cell hf.va j (by rw [← HN.out]; exact hjn)
  have e1 : b' = b := by injection e1 with e1; injection e1 with e1 _; exact e1.symm
  subst e1
  have hxc := hcell1 _ (nums_get vars j (by rw [← HN.out]; exact hjn))
  go_simp
  refine hK _ _ ⟨(fun h => by cases h), ?_⟩
  clear hK K
  try simp only [Act.put, List.setIfInBounds_toArray, List.set_cons_succ, List.set_cons_zero]
  refine ord_end ?_
  have hf2 := hf.setvar j (by rw [← HN.out]; exact hjn) y
  have hc2 := Chg.set_cell (w := w1) ⟨b', j, none⟩ (.int .i64 y)
  have hfi : FIs (w1.setCell ⟨b', j, none⟩ (.int .i64 y)) (fun k => Y k ∨ wd.heap.size ≤ k) F (vars.set j y) arrs s := ⟨_, _, _, hf2, .inl HY.out.1, fun k hk => .inl (HY.out.2.1 k hk), fun k hk => .inl (HY.out.2.2.1 k hk), fun k hk => .inl (own_len HYC.out k hk)⟩
  have hcc : Chg Y wd (w1.setCell ⟨b', j, none⟩ (.int .i64 y)) := (hc.mono (fun k _ e => by rw [e]; exact HY.out.1)).then (hc2.mono (fun k _ e => HY.out.2.1 k (by have e : k = b' := e; rw [e]; rfl)))
  obtain ⟨Y', hm1, hg1⟩ := HMD.out.frame hfi hcc
  have HF := Lib.hid (And.intro hm1 (HGD.out.trans hg1))
  clear hf hc hm1 hg1 hS CP hfi hcc hf2 hc2 hxc hfz1 hcell1 d0 hS1
  go_wp2_with fail
  go_ret
  refine ⟨X, Y', _, _, _, rfl, HF.out.1, HF.out.2, fun _ => ⟨?_, rfl, ?_⟩⟩
  · show vars.set j y = vars.set ((j : Int)).toNat (top (s ++ [y]))
    rw [show ((j : Int)).toNat = j by omega, top_snoc]
  · show s = (s ++ [y]).dropLast
    simp
set_option maxHeartbeats 4000000 in
set_option maxRecDepth 100000 in
theorem does_print {W0 w : World} {X Y : Nat → Prop} {m : Nat} {V : Value} {d : Nat} {g : GS} {F : Nat} {f : Fr} (h : Ms W0 w X Y m V d g F f.vars f.arrs f.stack) (a nn : Int) (s : List Int) (y : Int) (hst : f.stack = s ++ [y]) (hp : g.pr.length ≤ 1099511627776) (hl : f.stack.length ≤ 1099511627776) :
    Calls Tryd.prog 62 #[.pointer (some ⟨m, 0, none⟩), .pointer (some ⟨F, 0, none⟩), .agg #[.int .i64 19, .int .i64 a, .int .i64 nn]] w (DoesP W0 w X Y m V d F ⟨19, a, nn⟩ f g) := by
  obtain ⟨fn, at_, vars, arrs, stack⟩ := f
  simp only at h hst hp hl
  obtain ⟨w0, hw0⟩ : ∃ w0, w0 = w.alloc (.cells #[.int .i64 19, .int .i64 a, .int .i64 nn] 44) := ⟨_, rfl⟩
  obtain ⟨P0, hP0⟩ : ∃ P0, P0 = w.heap.size := ⟨_, rfl⟩
  have hc0 : Chg (fun _ => False) w w0 := by rw [hw0]; exact (Chg.refl _ _).alloc _
  have hi0 : w0.heap[P0]? = some (.cells #[.int .i64 19, .int .i64 a, .int .i64 nn] 44 (0, 0)) := by rw [hw0]; exact heap_new' hP0.symm
  obtain ⟨hm0, hg0⟩ := h.still hc0
  have HM0 := Lib.hid hm0
  have HG0 := Lib.hid hg0
  have HI0 := Lib.hid hi0
  have HWE := Lib.hid (And.intro hw0 hP0)
  have HPN : Hid (¬ X P0 ∧ ¬ Y P0) := Lib.hid ⟨fun e => by have := (h.lx _ e).2; omega, fun e => by have := (h.ly _ e).2; omega⟩
  have i0 := cell_of_block hi0 0
  have i1 := cell_of_block hi0 1
  have i2 := cell_of_block hi0 2
  simp at i0 i1 i2
  subst hst
  have esl : (s ++ [y]).length = s.length + 1 := by simp
  rw [esl] at hl
  obtain ⟨mt, hp_, Sh, I0, I1, P, K, C, hms, hin⟩ := hm0.mi
  obtain ⟨_, QA, qc, rfl⟩ := ownsRow_slice hms.pr
  have cq := cell_of_block hms.box 7
  simp at cq
  obtain ⟨L, hL⟩ : ∃ L, L = g.pr.length := ⟨_, rfl⟩
  rw [← hL] at cq hp
  have HLL := Lib.hid hL
  clear hL
  have HIN := Lib.hid hin
  obtain ⟨i9, hi9, hz0, hz1, hz2⟩ := info_parts infoL
  have CP := Lib.hid (pop_any (hm0.still (w' := w0.drew) ((Chg.refl _ _).drew)).1.fi (by omega))
  clear h hw0 hP0 hc0 hi0 hm0 hg0
  go_enter Tryd.func62, Tryd.ntmps62
  go_upto_region 1 with fail
  rw [← HWE.out.1, ← HWE.out.2]
  go_upto_region 12 with fail
  obtain ⟨wd, hwd⟩ : ∃ wd, wd = w0.drew := ⟨_, rfl⟩
  have hS : wd.cell? ⟨m, 7, none⟩ = some (.slice QA L qc) := by rw [hwd]; exact cq
  obtain ⟨hmd, hgd⟩ := HM0.out.still (w' := wd) (by rw [hwd]; exact (Chg.refl _ _).drew)
  have hmsd := hms.kept (w' := wd) (T := fun _ => False) (by rw [hwd]; exact (Chg.refl _ _).drew) HIN.out (fun _ _ x => x)
  refine wp_region_ord (S := fun w' => w'.cell? ⟨m, 7, none⟩ = some (.slice QA L qc)) (N := fun i => i != 13) (by kernel_rfl) [(0, true), (1, true), (2, true), (3, true), (4, true), (5, true), (6, true), (7, false), (8, false), (9, false), (10, true), (11, true), (12, true), (13, false)] (by kernel_rfl) ?_
  rw [← hwd]
  rw [← hwd] at CP
  have HGD := Lib.hid (HG0.out.trans hgd)
  have HMD := Lib.hid hmd
  clear hwd hmd hgd cq i0 i1 i2 hms
  iterate 7 (refine ord_look rfl hS rfl (by intro w hS; go_simp; with_reducible rfl) (fun c a w h => h) ?_; simp only [Act.put, List.setIfInBounds_toArray, List.set_cons_succ, List.set_cons_zero])
  refine ord_act rfl rfl (fun K hK => ?_)
  refine wp_call 61 _ _ Tryd.func61 rfl (by kernel_rfl) _ _ rfl #[.pointer (some ⟨F, 0, none⟩)] (by simp [Act.eval]) (R := fun v w' => v = .int .i64 y ∧ FIs w' Y F vars arrs s ∧ Chg (fun k => k = F) wd w') (calls_ret CP.out (by rintro e w' ⟨rfl, h1, h2⟩; exact ⟨_, rfl, rfl, h1, h2⟩)) ?_
  rintro v w1 ⟨rfl, hf, hc⟩
  have hYF : Y F := by obtain ⟨_, _, _, _, h, _⟩ := HMD.out.fi; exact h
  have hcY : Chg Y wd w1 := hc.mono (fun k _ e => by rw [e]; exact hYF)
  have hm1s := hmsd.kept hcY HIN.out (fun k hk => HMD.out.xy k hk)
  obtain ⟨Y1, hm1, hg1⟩ := HMD.out.frame (hf.mono (fun k hk _ => .inl hk)) hcY
  have hS1 : w1.cell? ⟨m, 7, none⟩ = some (.slice QA L qc) := hcY.cell hS (fun e => HMD.out.xy m HIN.out.m e)
  refine hK _ _ ⟨fun _ => hS1, ?_⟩
  clear hK K
  try simp only [Act.put, List.setIfInBounds_toArray, List.set_cons_succ, List.set_cons_zero]
  refine ord_act rfl rfl (fun K hK => ?_)
  go_simp
  obtain ⟨wx, hwx⟩ : ∃ wx, wx = w1.alloc (.cells #[.int .i64 y] 2) := ⟨_, rfl⟩
  obtain ⟨gg, hgg⟩ : ∃ gg, gg = w1.heap.size := ⟨_, rfl⟩
  have hcx : Chg (fun _ => False) w1 wx := by rw [hwx]; exact (Chg.refl _ _).alloc _
  have hszx : wx.heap.size = gg + 1 := by rw [hwx, hgg]; simp
  have hnews : ∀ (j : Nat) u, ([.int .i64 y] : List Value)[j]? = some u → wx.cell? ((⟨gg, 0, none⟩ : Addr).add j) = some u := World.news_of_block (cs := #[.int .i64 y]) (t := 2) (fr := (0, 0)) (by rw [hwx]; exact heap_new' hgg.symm)
  have hmxs := hm1s.kept hcx HIN.out (fun _ _ x => x)
  rw [← hwx, ← hgg]
  have hSx : wx.cell? ⟨m, 7, none⟩ = some (.slice QA L qc) := hcx.cell hS1 (fun x => x)
  refine hK _ _ ⟨fun _ => hSx, ?_⟩
  clear hK K hwx
  try simp only [Act.put, List.setIfInBounds_toArray, List.set_cons_succ, List.set_cons_zero]
  refine ord_act rfl rfl (fun K hK => ?_)
  have hrow := hmxs.pr
  rw [← HLL.out] at hrow
  refine wp_append_lies _ (.tmp 57) (.tmp 60) 25 rfl 0 2 i9 _ 1 8 Tryd.underlying25 hi9 hz0 hz1 hz2 rfl (by omega) (.slice QA L qc) L (nums g.pr) rfl hrow ⟨gg, 0, none⟩ 1 1 [.int .i64 y] rfl rfl hnews (by simp [Value.oneCell']) (by omega) (by unfold maxLen; omega) (by omega) (by omega) (gg + 1) hszx ?_
  intro q cap2 w2 hown2 hgrow2 hat2 hlt2
  have hc2 := Chg.of_grown hgrow2
  have hmne : ¬ (Value.slice QA L qc).ownBlock = some m := fun e => by
    have := hmxs.pm.1
    rw [← HLL.out] at this
    exact this e
  have hb2 := hc2.heap hmxs.box hmne
  have hS2 : w2.cell? ⟨m, 7, none⟩ = some (.slice QA L qc) := hc2.cell hSx hmne
  refine hK _ _ ⟨fun _ => hS2, ?_⟩
  clear hK K
  try simp only [Act.put, List.setIfInBounds_toArray, List.set_cons_succ, List.set_cons_zero]
  clear hS
  have hS := hS2
  iterate 3 (refine ord_look rfl hS rfl (by intro w hS; go_simp; with_reducible rfl) (fun c a w h => h) ?_; simp only [Act.put, List.setIfInBounds_toArray, List.set_cons_succ, List.set_cons_zero])
  refine ord_act rfl rfl (fun K hK => ?_)
  have hfz := frozen_of_block hb2 7
  go_simp
  refine hK _ _ ⟨(fun h => by cases h), ?_⟩
  clear hK K
  try simp only [Act.put, List.setIfInBounds_toArray, List.set_cons_succ, List.set_cons_zero]
  refine ord_end ?_
  have hrr : w2.ownsRow 0 2 1 (.slice (some ⟨q, 0, none⟩) (L + 1) cap2) (L + 1) (nums (g.pr ++ [y])) := by rw [nums_snoc]; exact hown2
  have hms2 := hmxs.set7 (x := y) (q := q) (cap := cap2) (L := L + 1) (by rw [← HLL.out]; exact hc2) hrr (by rw [← HLL.out]) (by rw [← HLL.out]; rcases hat2 with h | h; exact .inl h; exact .inr (by omega))
  have hsx := Chg.set_cell (w := w2) ⟨m, 7, none⟩ (.slice (some ⟨q, 0, none⟩) (L + 1) cap2)
  have hcX : Chg X wx (w2.setCell ⟨m, 7, none⟩ (.slice (some ⟨q, 0, none⟩) (L + 1) cap2)) := (hc2.mono (fun k _ e => HIN.out.p k (by rw [← HLL.out]; exact e))).then (hsx.mono (fun k _ e => by have e : k = m := e; rw [e]; exact HIN.out.m))
  have hin2 : MIn (fun k => X k ∨ wx.heap.size ≤ k) m mt Sh (.slice (some ⟨q, 0, none⟩) (L + 1) cap2) K C := ⟨.inl HIN.out.m, .inl HIN.out.mt, fun k hk => .inl (HIN.out.sh k hk), fun k hk => by
    have hk : some q = some k := hk
    injection hk with hk
    rw [← hk]
    rcases hat2 with h | h
    · exact .inl (HIN.out.p q (by rw [← HLL.out]; exact h))
    · exact .inr (by omega), fun k hk => .inl (HIN.out.k k hk), fun k hk => .inl (HIN.out.c k hk)⟩
  have hmi : MIs W0 _ (fun k => X k ∨ wx.heap.size ≤ k) m V d { g with pr := g.pr ++ [y] } := ⟨mt, hp_, Sh, I0, I1, _, _, _, hms2, hin2⟩
  obtain ⟨hmx, hgx⟩ := hm1.still hcx
  obtain ⟨X', hm2, hg2⟩ := hmx.mach hmi hcX
  have HF := Lib.hid (And.intro hm2 (((HGD.out.trans hg1).trans hgx).trans hg2))
  clear hf hc hm1 hg1 CP hm1s hmxs hms2 hsx hcX hin2 hmi hmx hgx hm2 hg2 hrr hown2 hgrow2 hat2 hc2 hb2 hrow hcx hcY hmsd hnews hS1 hS2 hSx hfz hS
  go_wp2_with fail
  go_ret
  refine ⟨X', Y1, vars, arrs, s, rfl, ?_, HF.out.2, fun _ => ⟨rfl, rfl, ?_⟩⟩
  · have e : (doesv ⟨19, a, nn⟩ ⟨fn, at_, vars, arrs, s ++ [y]⟩ g).2.2 = { g with pr := g.pr ++ [y] } := by
      show { g with pr := g.pr ++ [top (s ++ [y])] } = _
      rw [top_snoc]
    rw [e]
    exact HF.out.1
  · show s = (s ++ [y]).dropLast
    simp
set_option maxHeartbeats 4000000 in
set_option maxRecDepth 100000 in
theorem does_keep {W0 w : World} {X Y : Nat → Prop} {m : Nat} {V : Value} {d : Nat} {g : GS} {F : Nat} {f : Fr} (h : Ms W0 w X Y m V d g F f.vars f.arrs f.stack) (a nn : Int) (s : List Int) (y : Int) (hst : f.stack = s ++ [y]) (hp : g.ke.length ≤ 1099511627776) (hl : f.stack.length ≤ 1099511627776) :
    Calls Tryd.prog 62 #[.pointer (some ⟨m, 0, none⟩), .pointer (some ⟨F, 0, none⟩), .agg #[.int .i64 20, .int .i64 a, .int .i64 nn]] w (DoesP W0 w X Y m V d F ⟨20, a, nn⟩ f g) := by
  obtain ⟨fn, at_, vars, arrs, stack⟩ := f
  simp only at h hst hp hl
  obtain ⟨w0, hw0⟩ : ∃ w0, w0 = w.alloc (.cells #[.int .i64 20, .int .i64 a, .int .i64 nn] 44) := ⟨_, rfl⟩
  obtain ⟨P0, hP0⟩ : ∃ P0, P0 = w.heap.size := ⟨_, rfl⟩
  have hc0 : Chg (fun _ => False) w w0 := by rw [hw0]; exact (Chg.refl _ _).alloc _
  have hi0 : w0.heap[P0]? = some (.cells #[.int .i64 20, .int .i64 a, .int .i64 nn] 44 (0, 0)) := by rw [hw0]; exact heap_new' hP0.symm
  obtain ⟨hm0, hg0⟩ := h.still hc0
  have HM0 := Lib.hid hm0
  have HG0 := Lib.hid hg0
  have HI0 := Lib.hid hi0
  have HWE := Lib.hid (And.intro hw0 hP0)
  have HPN : Hid (¬ X P0 ∧ ¬ Y P0) := Lib.hid ⟨fun e => by have := (h.lx _ e).2; omega, fun e => by have := (h.ly _ e).2; omega⟩
  have i0 := cell_of_block hi0 0
  have i1 := cell_of_block hi0 1
  have i2 := cell_of_block hi0 2
  simp at i0 i1 i2
  subst hst
  have esl : (s ++ [y]).length = s.length + 1 := by simp
  rw [esl] at hl
  obtain ⟨mt, hp_, Sh, I0, I1, P, K, C, hms, hin⟩ := hm0.mi
  obtain ⟨_, QA, qc, rfl⟩ := ownsRow_slice hms.ke
  have cq := cell_of_block hms.box 8
  simp at cq
  obtain ⟨L, hL⟩ : ∃ L, L = g.ke.length := ⟨_, rfl⟩
  rw [← hL] at cq hp
  have HLL := Lib.hid hL
  clear hL
  have HIN := Lib.hid hin
  obtain ⟨i9, hi9, hz0, hz1, hz2⟩ := info_parts infoL
  have CP := Lib.hid (pop_any (hm0.still (w' := w0.drew) ((Chg.refl _ _).drew)).1.fi (by omega))
  clear h hw0 hP0 hc0 hi0 hm0 hg0
  go_enter Tryd.func62, Tryd.ntmps62
  go_upto_region 1 with fail
  rw [← HWE.out.1, ← HWE.out.2]
  go_upto_region 14 with fail
  obtain ⟨wd, hwd⟩ : ∃ wd, wd = w0.drew := ⟨_, rfl⟩
  have hS : wd.cell? ⟨m, 8, none⟩ = some (.slice QA L qc) := by rw [hwd]; exact cq
  obtain ⟨hmd, hgd⟩ := HM0.out.still (w' := wd) (by rw [hwd]; exact (Chg.refl _ _).drew)
  have hmsd := hms.kept (w' := wd) (T := fun _ => False) (by rw [hwd]; exact (Chg.refl _ _).drew) HIN.out (fun _ _ x => x)
  refine wp_region_ord (S := fun w' => w'.cell? ⟨m, 8, none⟩ = some (.slice QA L qc)) (N := fun i => i != 13) (by kernel_rfl) [(0, true), (1, true), (2, true), (3, true), (4, true), (5, true), (6, true), (7, false), (8, false), (9, false), (10, true), (11, true), (12, true), (13, false)] (by kernel_rfl) ?_
  rw [← hwd]
  rw [← hwd] at CP
  have HGD := Lib.hid (HG0.out.trans hgd)
  have HMD := Lib.hid hmd
  clear hwd hmd hgd cq i0 i1 i2 hms
  iterate 7 (refine ord_look rfl hS rfl (by intro w hS; go_simp; with_reducible rfl) (fun c a w h => h) ?_; simp only [Act.put, List.setIfInBounds_toArray, List.set_cons_succ, List.set_cons_zero])
  refine ord_act rfl rfl (fun K hK => ?_)
  refine wp_call 61 _ _ Tryd.func61 rfl (by kernel_rfl) _ _ rfl #[.pointer (some ⟨F, 0, none⟩)] (by simp [Act.eval]) (R := fun v w' => v = .int .i64 y ∧ FIs w' Y F vars arrs s ∧ Chg (fun k => k = F) wd w') (calls_ret CP.out (by rintro e w' ⟨rfl, h1, h2⟩; exact ⟨_, rfl, rfl, h1, h2⟩)) ?_
  rintro v w1 ⟨rfl, hf, hc⟩
  have hYF : Y F := by obtain ⟨_, _, _, _, h, _⟩ := HMD.out.fi; exact h
  have hcY : Chg Y wd w1 := hc.mono (fun k _ e => by rw [e]; exact hYF)
  have hm1s := hmsd.kept hcY HIN.out (fun k hk => HMD.out.xy k hk)
  obtain ⟨Y1, hm1, hg1⟩ := HMD.out.frame (hf.mono (fun k hk _ => .inl hk)) hcY
  have hS1 : w1.cell? ⟨m, 8, none⟩ = some (.slice QA L qc) := hcY.cell hS (fun e => HMD.out.xy m HIN.out.m e)
  refine hK _ _ ⟨fun _ => hS1, ?_⟩
  clear hK K
  try simp only [Act.put, List.setIfInBounds_toArray, List.set_cons_succ, List.set_cons_zero]
  refine ord_act rfl rfl (fun K hK => ?_)
  go_simp
  obtain ⟨wx, hwx⟩ : ∃ wx, wx = w1.alloc (.cells #[.int .i64 y] 2) := ⟨_, rfl⟩
  obtain ⟨gg, hgg⟩ : ∃ gg, gg = w1.heap.size := ⟨_, rfl⟩
  have hcx : Chg (fun _ => False) w1 wx := by rw [hwx]; exact (Chg.refl _ _).alloc _
  have hszx : wx.heap.size = gg + 1 := by rw [hwx, hgg]; simp
  have hnews : ∀ (j : Nat) u, ([.int .i64 y] : List Value)[j]? = some u → wx.cell? ((⟨gg, 0, none⟩ : Addr).add j) = some u := World.news_of_block (cs := #[.int .i64 y]) (t := 2) (fr := (0, 0)) (by rw [hwx]; exact heap_new' hgg.symm)
  have hmxs := hm1s.kept hcx HIN.out (fun _ _ x => x)
  rw [← hwx, ← hgg]
  have hSx : wx.cell? ⟨m, 8, none⟩ = some (.slice QA L qc) := hcx.cell hS1 (fun x => x)
  refine hK _ _ ⟨fun _ => hSx, ?_⟩
  clear hK K hwx
  try simp only [Act.put, List.setIfInBounds_toArray, List.set_cons_succ, List.set_cons_zero]
  refine ord_act rfl rfl (fun K hK => ?_)
  have hrow := hmxs.ke
  rw [← HLL.out] at hrow
  refine wp_append_lies _ (.tmp 72) (.tmp 75) 25 rfl 0 2 i9 _ 1 8 Tryd.underlying25 hi9 hz0 hz1 hz2 rfl (by omega) (.slice QA L qc) L (nums g.ke) rfl hrow ⟨gg, 0, none⟩ 1 1 [.int .i64 y] rfl rfl hnews (by simp [Value.oneCell']) (by omega) (by unfold maxLen; omega) (by omega) (by omega) (gg + 1) hszx ?_
  intro q cap2 w2 hown2 hgrow2 hat2 hlt2
  have hc2 := Chg.of_grown hgrow2
  have hmne : ¬ (Value.slice QA L qc).ownBlock = some m := fun e => by
    have := hmxs.km.1
    rw [← HLL.out] at this
    exact this e
  have hb2 := hc2.heap hmxs.box hmne
  have hS2 : w2.cell? ⟨m, 8, none⟩ = some (.slice QA L qc) := hc2.cell hSx hmne
  refine hK _ _ ⟨fun _ => hS2, ?_⟩
  clear hK K
  try simp only [Act.put, List.setIfInBounds_toArray, List.set_cons_succ, List.set_cons_zero]
  clear hS
  have hS := hS2
  iterate 3 (refine ord_look rfl hS rfl (by intro w hS; go_simp; with_reducible rfl) (fun c a w h => h) ?_; simp only [Act.put, List.setIfInBounds_toArray, List.set_cons_succ, List.set_cons_zero])
  refine ord_act rfl rfl (fun K hK => ?_)
  have hfz := frozen_of_block hb2 8
  go_simp
  refine hK _ _ ⟨(fun h => by cases h), ?_⟩
  clear hK K
  try simp only [Act.put, List.setIfInBounds_toArray, List.set_cons_succ, List.set_cons_zero]
  refine ord_end ?_
  have hrr : w2.ownsRow 0 2 1 (.slice (some ⟨q, 0, none⟩) (L + 1) cap2) (L + 1) (nums (g.ke ++ [y])) := by rw [nums_snoc]; exact hown2
  have hms2 := hmxs.set8 (x := y) (q := q) (cap := cap2) (L := L + 1) (by rw [← HLL.out]; exact hc2) hrr (by rw [← HLL.out]) (by rw [← HLL.out]; rcases hat2 with h | h; exact .inl h; exact .inr (by omega))
  have hsx := Chg.set_cell (w := w2) ⟨m, 8, none⟩ (.slice (some ⟨q, 0, none⟩) (L + 1) cap2)
  have hcX : Chg X wx (w2.setCell ⟨m, 8, none⟩ (.slice (some ⟨q, 0, none⟩) (L + 1) cap2)) := (hc2.mono (fun k _ e => HIN.out.k k (by rw [← HLL.out]; exact e))).then (hsx.mono (fun k _ e => by have e : k = m := e; rw [e]; exact HIN.out.m))
  have hin2 : MIn (fun k => X k ∨ wx.heap.size ≤ k) m mt Sh P (.slice (some ⟨q, 0, none⟩) (L + 1) cap2) C := ⟨.inl HIN.out.m, .inl HIN.out.mt, fun k hk => .inl (HIN.out.sh k hk), fun k hk => .inl (HIN.out.p k hk), fun k hk => by
    have hk : some q = some k := hk
    injection hk with hk
    rw [← hk]
    rcases hat2 with h | h
    · exact .inl (HIN.out.k q (by rw [← HLL.out]; exact h))
    · exact .inr (by omega), fun k hk => .inl (HIN.out.c k hk)⟩
  have hmi : MIs W0 _ (fun k => X k ∨ wx.heap.size ≤ k) m V d { g with ke := g.ke ++ [y] } := ⟨mt, hp_, Sh, I0, I1, _, _, _, hms2, hin2⟩
  obtain ⟨hmx, hgx⟩ := hm1.still hcx
  obtain ⟨X', hm2, hg2⟩ := hmx.mach hmi hcX
  have HF := Lib.hid (And.intro hm2 (((HGD.out.trans hg1).trans hgx).trans hg2))
  clear hf hc hm1 hg1 CP hm1s hmxs hms2 hsx hcX hin2 hmi hmx hgx hm2 hg2 hrr hown2 hgrow2 hat2 hc2 hb2 hrow hcx hcY hmsd hnews hS1 hS2 hSx hfz hS
  go_wp2_with fail
  go_ret
  refine ⟨X', Y1, vars, arrs, s, rfl, ?_, HF.out.2, fun _ => ⟨rfl, rfl, ?_⟩⟩
  · have e : (doesv ⟨20, a, nn⟩ ⟨fn, at_, vars, arrs, s ++ [y]⟩ g).2.2 = { g with ke := g.ke ++ [y] } := by
      show { g with ke := g.ke ++ [top (s ++ [y])] } = _
      rw [top_snoc]
    rw [e]
    exact HF.out.1
  · show s = (s ++ [y]).dropLast
    simp
end Go.Proofs.YtdpimkbdieafgaaDoor
