/- interp: reckon; does: input, clock. -/
import Derived.Test.YtdpimkbdieafgaaDoorIntD
namespace Go.Proofs.YtdpimkbdieafgaaDoor
set_option linter.unusedVariables false
set_option linter.unusedSimpArgs false
open Go.RowKit

/-- what reckon answers -/
def RecP (W0 w : World) (X Y : Nat → Prop) (m : Nat) (V : Value) (d : Nat) (g : GS) (F : Nat) (vars arrs s : List Int) (r : Int × Bool) (e : Ending) (w' : World) : Prop :=
  ∃ Y' stack, e = .returned (.int .i64 (if r.2 = true then 0 else 7)) ∧ Ms W0 w' X Y' m V d g F vars arrs stack ∧ Gr w X Y w' X Y' ∧ (r.2 = true → stack = s ++ [r.1])
set_option maxHeartbeats 2000000 in
set_option maxRecDepth 100000 in
theorem reckon2 {W0 w : World} {X Y : Nat → Prop} {m : Nat} {V : Value} {d : Nat} {g : GS} {F : Nat} {vars arrs s : List Int} (x y : Int) (h : Ms W0 w X Y m V d g F vars arrs (s ++ [x] ++ [y])) (hs : SortsIs W0) (op : Int) (hop : 6 ≤ op ∧ op ≤ 14) (hl : s.length ≤ 1048576) :
    Calls Tryd.prog 77 #[.pointer (some ⟨F, 0, none⟩), .int .i64 op] w (RecP W0 w X Y m V d g F vars arrs s (doV (op + 2) x y)) := by
  have CT := Lib.hid (takes_any (hs.keep h.bel) op (by omega))
  have hT : takesv op = 2 := by
    have h : op = 6 ∨ op = 7 ∨ op = 8 ∨ op = 9 ∨ op = 10 ∨ op = 11 ∨ op = 12 ∨ op = 13 ∨ op = 14 := by omega
    rcases h with rfl | rfl | rfl | rfl | rfl | rfl | rfl | rfl | rfl <;> rfl
  rw [hT] at CT
  obtain ⟨r, hr⟩ : ∃ r, r = doV (op + 2) x y := ⟨_, rfl⟩
  have CD : Hid (∀ w, Calls Tryd.prog 95 #[.int .i64 (op + 2), .int .i64 x, .int .i64 y] w fun e w' => e = .returned (.tuple #[.int .i64 r.1, .bool r.2]) ∧ w' = w) := Lib.hid (fun w => by rw [hr]; exact doR_any (op + 2) x y (by omega) (by omega) w)
  rw [← hr]
  have HM := Lib.hid h
  clear h hs hT hr
  have e1 : wrap64 (wrap64 (op - 4) + 6) = op + 2 := by unfold wrap64; omega
  have e2 : op - 4 + 6 = op + 2 := by omega
  go_enter Tryd.func77, Tryd.ntmps77
  go_wp2_with fail
  refine CT.out.mono ?_; rintro e w1 ⟨rfl, hb1⟩
  obtain ⟨hm1, hg1⟩ := HM.out.still (Below.chg hb1)
  have HM1 := Lib.hid hm1
  have HG1 := Lib.hid hg1
  clear hm1 hg1 hb1
  have C1 := Lib.hid (pop_any HM1.out.fi (by simp; omega))
  go_wp2_with fail
  refine C1.out.mono ?_; rintro e w2 ⟨rfl, hf2, hc2⟩
  have hYF : Y F := by obtain ⟨_, _, _, _, h, _⟩ := HM1.out.fi; exact h
  obtain ⟨Y2, hm2, hg2⟩ := HM1.out.frame (hf2.mono (fun k hk _ => .inl hk)) (hc2.mono (fun k _ e => by rw [e]; exact hYF))
  have HM2 := Lib.hid hm2
  have HG2 := Lib.hid (HG1.out.trans hg2)
  clear hf2 hc2 hm2 hg2 C1
  have C2 := Lib.hid (pop_any HM2.out.fi (by omega))
  go_wp2_with fail
  refine C2.out.mono ?_; rintro e w3 ⟨rfl, hf3, hc3⟩
  have hYF3 : Y2 F := by obtain ⟨_, _, _, _, h, _⟩ := HM2.out.fi; exact h
  obtain ⟨Y3, hm3, hg3⟩ := HM2.out.frame (hf3.mono (fun k hk _ => .inl hk)) (hc3.mono (fun k _ e => by rw [e]; exact hYF3))
  have HM3 := Lib.hid hm3
  have HG3 := Lib.hid (HG2.out.trans hg3)
  clear hf3 hc3 hm3 hg3 C2
  go_wp2_with fail
  try rw [e2]
  refine (CD.out _).mono ?_; rintro e w4 ⟨rfl, rfl⟩
  obtain ⟨r1, r2⟩ := r
  simp only at CD ⊢
  cases r2 with
  | false =>
    go_wp2_with fail
    go_ret
    exact ⟨Y3, s, rfl, HM3.out, HG3.out, (fun h => by cases h)⟩
  | true =>
    have C4 := Lib.hid (push_any r1 HM3.out.fi (by omega))
    go_wp2_with fail
    refine C4.out.mono ?_; rintro e w5 ⟨rfl, hf5, hc5⟩
    obtain ⟨Y5, hm5, hg5⟩ := HM3.out.frame hf5 hc5
    have HF := Lib.hid (And.intro hm5 (HG3.out.trans hg5))
    clear hf5 hc5 hm5 hg5 C4
    go_wp2_with fail
    go_ret
    exact ⟨Y5, _, rfl, HF.out.1, HF.out.2, fun _ => rfl⟩
set_option maxHeartbeats 2000000 in
set_option maxRecDepth 100000 in
theorem reckon1 {W0 w : World} {X Y : Nat → Prop} {m : Nat} {V : Value} {d : Nat} {g : GS} {F : Nat} {vars arrs s : List Int} (x : Int) (h : Ms W0 w X Y m V d g F vars arrs (s ++ [x])) (hs : SortsIs W0) (op : Int) (hop : op = 4 ∨ op = 5) (hl : s.length ≤ 1048576) :
    Calls Tryd.prog 77 #[.pointer (some ⟨F, 0, none⟩), .int .i64 op] w (RecP W0 w X Y m V d g F vars arrs s (doV (op + 2) x 0)) := by
  have CT := Lib.hid (takes_any (hs.keep h.bel) op (by omega))
  have hT : takesv op = 1 := by
    rcases hop with rfl | rfl <;> rfl
  rw [hT] at CT
  obtain ⟨r, hr⟩ : ∃ r, r = doV (op + 2) x 0 := ⟨_, rfl⟩
  have CD : Hid (∀ w, Calls Tryd.prog 95 #[.int .i64 (op + 2), .int .i64 x, .int .i64 0] w fun e w' => e = .returned (.tuple #[.int .i64 r.1, .bool r.2]) ∧ w' = w) := Lib.hid (fun w => by rw [hr]; exact doR_any (op + 2) x 0 (by omega) (by omega) w)
  rw [← hr]
  have HM := Lib.hid h
  clear h hs hT hr
  have e1 : wrap64 (wrap64 (op - 4) + 6) = op + 2 := by unfold wrap64; omega
  have e2 : op - 4 + 6 = op + 2 := by omega
  go_enter Tryd.func77, Tryd.ntmps77
  go_wp2_with fail
  refine CT.out.mono ?_; rintro e w1 ⟨rfl, hb1⟩
  obtain ⟨hm1, hg1⟩ := HM.out.still (Below.chg hb1)
  have HM1 := Lib.hid hm1
  have HG1 := Lib.hid hg1
  clear hm1 hg1 hb1
  have C2 := Lib.hid (pop_any HM1.out.fi (by omega))
  go_wp2_with fail
  refine C2.out.mono ?_; rintro e w3 ⟨rfl, hf3, hc3⟩
  have hYF3 : Y F := by obtain ⟨_, _, _, _, h, _⟩ := HM1.out.fi; exact h
  obtain ⟨Y3, hm3, hg3⟩ := HM1.out.frame (hf3.mono (fun k hk _ => .inl hk)) (hc3.mono (fun k _ e => by rw [e]; exact hYF3))
  have HM3 := Lib.hid hm3
  have HG3 := Lib.hid (HG1.out.trans hg3)
  clear hf3 hc3 hm3 hg3 C2
  go_wp2_with fail
  try rw [e2]
  refine (CD.out _).mono ?_; rintro e w4 ⟨rfl, rfl⟩
  obtain ⟨r1, r2⟩ := r
  simp only at CD ⊢
  cases r2 with
  | false =>
    go_wp2_with fail
    go_ret
    exact ⟨Y3, s, rfl, HM3.out, HG3.out, (fun h => by cases h)⟩
  | true =>
    have C4 := Lib.hid (push_any r1 HM3.out.fi (by omega))
    go_wp2_with fail
    refine C4.out.mono ?_; rintro e w5 ⟨rfl, hf5, hc5⟩
    obtain ⟨Y5, hm5, hg5⟩ := HM3.out.frame hf5 hc5
    have HF := Lib.hid (And.intro hm5 (HG3.out.trans hg5))
    clear hf5 hc5 hm5 hg5 C4
    go_wp2_with fail
    go_ret
    exact ⟨Y5, _, rfl, HF.out.1, HF.out.2, fun _ => rfl⟩
set_option maxHeartbeats 4000000 in
set_option maxRecDepth 100000 in
theorem does_input0 {W0 w : World} {X Y : Nat → Prop} {m : Nat} {V : Value} {d : Nat} {g : GS} {F : Nat} {f : Fr} (h : Ms W0 w X Y m V d g F f.vars f.arrs f.stack) (j : Nat) (hj : j < f.vars.length) (hv : f.vars.length ≤ 1048576) :
    Calls Tryd.prog 62 #[.pointer (some ⟨m, 0, none⟩), .pointer (some ⟨F, 0, none⟩), .agg #[.int .i64 21, .int .i64 (j : Int), .int .i64 0]] w (DoesP W0 w X Y m V d F ⟨21, (j : Int), 0⟩ f g) := by
  obtain ⟨fn, at_, vars, arrs, stack⟩ := f
  simp only at h hj hv
  obtain ⟨w0, hw0⟩ : ∃ w0, w0 = w.alloc (.cells #[.int .i64 21, .int .i64 (j : Int), .int .i64 0] 44) := ⟨_, rfl⟩
  obtain ⟨P0, hP0⟩ : ∃ P0, P0 = w.heap.size := ⟨_, rfl⟩
  have hc0 : Chg (fun _ => False) w w0 := by rw [hw0]; exact (Chg.refl _ _).alloc _
  have hi0 : w0.heap[P0]? = some (.cells #[.int .i64 21, .int .i64 (j : Int), .int .i64 0] 44 (0, 0)) := by rw [hw0]; exact heap_new' hP0.symm
  obtain ⟨hm0, hg0⟩ := h.still hc0
  have HM0 := Lib.hid hm0
  have HG0 := Lib.hid hg0
  have HI0 := Lib.hid hi0
  have HWE := Lib.hid (And.intro hw0 hP0)
  have HPN : Hid (¬ X P0 ∧ ¬ Y P0) := Lib.hid ⟨fun e => by have := (h.lx _ e).2; omega, fun e => by have := (h.ly _ e).2; omega⟩
  have i0 := cell_of_block hi0 0
  have i1 := cell_of_block hi0 1
  have i2 := cell_of_block hi0 2
  simp at i0 i1 i2
  obtain ⟨VA, VB, VC, hs, hY1, hY2, hY3, hY4⟩ := hm0.fi
  obtain ⟨_, A, c, rfl⟩ := ownsRow_slice hs.va
  obtain ⟨b, rfl, hb, hcap, hfz, hcell⟩ := ownsRow_cell hs.va j hj
  have hx := hcell _ (nums_get vars j hj)
  have c0 := cell_of_block hs.box 0
  simp at c0
  obtain ⟨x, hxe⟩ : ∃ x, x = vars[j] := ⟨_, rfl⟩
  rw [← hxe] at hx
  obtain ⟨n, hn⟩ : ∃ n, n = vars.length := ⟨_, rfl⟩
  have hjn : j < n := by omega
  rw [← hn] at c0 hcap
  have HN := Lib.hid hn
  have HXE := Lib.hid hxe
  have HS := Lib.hid hs
  have HY := Lib.hid (And.intro hY1 (And.intro hY2 (And.intro hY3 hY4)))
  have hnb : n ≤ 1048576 := by omega
  clear hxe hn
  obtain ⟨mt, hp_, Sh, I0, I1, P, KV, CV, hms, hin⟩ := hm0.mi
  have cq := cell_of_block hms.box 3
  have fq := frozen_of_block hms.box 3
  simp at cq
  have HIN := Lib.hid hin
  have hnsw := hms.i0
  have CN := Lib.hid (next_any (w := w0.drew) (m := m) (o := 3) (V := I0) (l := g.i0) cq fq ((hms.i0.keep hm0.bel).keep (Below.refl _ _).drew))
  clear h hw0 hP0 hc0 hi0 hm0 hg0
  go_enter Tryd.func62, Tryd.ntmps62
  go_upto_region 1 with fail
  rw [← HWE.out.1, ← HWE.out.2]
  go_upto_region 19 with fail
  obtain ⟨wd, hwd⟩ : ∃ wd, wd = w0.drew := ⟨_, rfl⟩
  have hS : wd.cell? ⟨F, 0, none⟩ = some (.slice (some ⟨b, 0, none⟩) n c) ∧ wd.cell? ⟨P0, 1, none⟩ = some (.int .i64 (j : Int)) := by rw [hwd]; exact ⟨c0, i1⟩
  obtain ⟨hmd, hgd⟩ := HM0.out.still (w' := wd) (by rw [hwd]; exact (Chg.refl _ _).drew)
  have hmsd := hms.kept (w' := wd) (T := fun _ => False) (by rw [hwd]; exact (Chg.refl _ _).drew) HIN.out (fun _ _ x => x)
  have hsd := hs.kept (w' := wd) (T := fun _ => False) (by rw [hwd]; exact (Chg.refl _ _).drew) (fun x => x) (fun _ _ x => x) (fun _ _ x => x) (fun _ _ x => x)
  refine wp_region_ord (S := fun w' => w'.cell? ⟨F, 0, none⟩ = some (.slice (some ⟨b, 0, none⟩) n c) ∧ w'.cell? ⟨P0, 1, none⟩ = some (.int .i64 (j : Int))) (N := fun i => i != 9) (by kernel_rfl) [(0, true), (1, true), (2, true), (3, true), (4, true), (5, true), (6, true), (7, false), (8, true), (9, false)] (by kernel_rfl) ?_
  rw [← hwd]
  rw [← hwd] at CN
  have HGD := Lib.hid (HG0.out.trans hgd)
  have HMD := Lib.hid hmd
  have HSS := Lib.hid hS
  clear hwd hmd hgd c0 hx i0 i1 i2 cq fq hms hs
  iterate 7 (refine ord_look rfl hS rfl (by intro w hS; obtain ⟨p0, p1⟩ := hS; go_simp; with_reducible rfl) (fun c a w h => h) ?_; simp only [Act.put, List.setIfInBounds_toArray, List.set_cons_succ, List.set_cons_zero])
  obtain ⟨y, hy⟩ : ∃ y, y = g.i0.headD 0 := ⟨_, rfl⟩
  have HYV := Lib.hid hy
  clear hy
  refine ord_act rfl rfl (fun K hK => ?_)
  refine wp_call 75 _ _ Tryd.func75 rfl (by kernel_rfl) _ _ rfl #[.pointer (some ⟨m, 3, none⟩)] (by simp [Act.eval]) (R := fun v w' => v = .int .i64 y ∧ NextP wd m 3 I0 g.i0 (.returned v) w') (calls_ret CN.out (by intro e w' h; have h1 := h.1; subst h1; exact ⟨_, rfl, by rw [HYV.out], h⟩)) ?_
  rintro v w1 ⟨rfl, hnx⟩
  have hne : ¬ m = F := fun e => HMD.out.xy m HIN.out.m (by rw [e]; exact HY.out.1)
  obtain ⟨I', hm1s, hc1⟩ : ∃ I', MSt W0 w1 m mt hp_ Sh V I' I1 P KV CV d { g with i0 := g.i0.tail } ∧ Chg (fun k => k = m) wd w1 := by
    rcases hnx.2 with ⟨e1, rfl⟩ | ⟨V', rfl, hV⟩
    · refine ⟨I0, ?_, Chg.refl _ _⟩
      have e : ({ g with i0 := g.i0.tail } : GS) = g := by obtain ⟨a1, a2, a3, a4, a5, a6, a7, a8, a9⟩ := g; simp only at e1; subst e1; rfl
      rw [e]; exact hmsd
    · exact ⟨V', hmsd.set3 V' _ (hV W0 hnsw), Chg.set_cell ⟨m, 3, none⟩ V'⟩
  have hs1 := hsd.kept hc1 (fun e => hne e.symm) (fun k hk e => HMD.out.xy m HIN.out.m (by rw [← e]; exact HY.out.2.1 k hk)) (fun k hk e => HMD.out.xy m HIN.out.m (by rw [← e]; exact HY.out.2.2.1 k hk)) (fun k hk e => HMD.out.xy m HIN.out.m (by rw [← e]; exact HY.out.2.2.2 k hk))
  have hmi1 : MIs W0 w1 (fun k => X k ∨ wd.heap.size ≤ k) m V d { g with i0 := g.i0.tail } := ⟨mt, hp_, Sh, _, _, P, KV, CV, hm1s, ⟨.inl HIN.out.m, .inl HIN.out.mt, fun k hk => .inl (HIN.out.sh k hk), fun k hk => .inl (HIN.out.p k hk), fun k hk => .inl (HIN.out.k k hk), fun k hk => .inl (HIN.out.c k hk)⟩⟩
  obtain ⟨X1, hm1, hg1⟩ := HMD.out.mach hmi1 (hc1.mono (fun k _ e => by rw [e]; exact HIN.out.m))
  have hS1 : w1.cell? ⟨F, 0, none⟩ = some (.slice (some ⟨b, 0, none⟩) n c) ∧ w1.cell? ⟨P0, 1, none⟩ = some (.int .i64 (j : Int)) := ⟨hc1.cell HSS.out.1 (fun e => hne e.symm), hc1.cell HSS.out.2 (fun e => HPN.out.1 (by have e : P0 = m := e; rw [e]; exact HIN.out.m))⟩
  refine hK _ _ ⟨fun _ => hS1, ?_⟩
  clear hK K hS
  have hS := hS1
  try simp only [Act.put, List.setIfInBounds_toArray, List.set_cons_succ, List.set_cons_zero]
  iterate 1 (refine ord_look rfl hS rfl (by intro w hS; obtain ⟨p0, p1⟩ := hS; go_simp; with_reducible rfl) (fun c a w h => h) ?_; simp only [Act.put, List.setIfInBounds_toArray, List.set_cons_succ, List.set_cons_zero])
  refine ord_act rfl rfl (fun K hK => ?_)
  obtain ⟨b', e1, _, _, hfz1, hcell1⟩ := ownsRow_cell hs1.va j (by rw [← HN.out]; exact hjn)
  have e1 : b' = b := by injection e1 with e1; injection e1 with e1 _; exact e1.symm
  subst e1
  have hxc := hcell1 _ (nums_get vars j (by rw [← HN.out]; exact hjn))
  go_simp
  refine hK _ _ ⟨(fun h => by cases h), ?_⟩
  clear hK K
  try simp only [Act.put, List.setIfInBounds_toArray, List.set_cons_succ, List.set_cons_zero]
  refine ord_end ?_
  have hf2 := hs1.setvar j (by rw [← HN.out]; exact hjn) y
  have hc2 := Chg.set_cell (w := w1) ⟨b', j, none⟩ (.int .i64 y)
  have hfi : FIs (w1.setCell ⟨b', j, none⟩ (.int .i64 y)) (fun k => Y k ∨ w1.heap.size ≤ k) F (vars.set j y) arrs stack := ⟨_, _, _, hf2, .inl HY.out.1, fun k hk => .inl (HY.out.2.1 k hk), fun k hk => .inl (HY.out.2.2.1 k hk), fun k hk => .inl (HY.out.2.2.2 k hk)⟩
  obtain ⟨Y', hm2, hg2⟩ := hm1.frame hfi (hc2.mono (fun k _ e => HY.out.2.1 k (by have e : k = b' := e; rw [e]; rfl)))
  have HF := Lib.hid (And.intro hm2 ((HGD.out.trans hg1).trans hg2))
  clear hm1 hg1 hS CN hfi hf2 hc2 hxc hfz1 hcell1 hS1 hnx hm1s hc1 hs1 hmi1 hm2 hg2 hmsd hsd hnsw
  go_wp2_with fail
  go_ret
  refine ⟨X1, Y', _, _, _, rfl, HF.out.1, HF.out.2, fun _ => ⟨?_, rfl, rfl⟩⟩
  show vars.set j y = vars.set ((j : Int)).toNat (g.i0.headD 0)
  rw [show ((j : Int)).toNat = j by omega, HYV.out]
set_option maxHeartbeats 4000000 in
set_option maxRecDepth 100000 in
theorem does_input1 {W0 w : World} {X Y : Nat → Prop} {m : Nat} {V : Value} {d : Nat} {g : GS} {F : Nat} {f : Fr} (h : Ms W0 w X Y m V d g F f.vars f.arrs f.stack) (j : Nat) (hj : j < f.vars.length) (hv : f.vars.length ≤ 1048576) :
    Calls Tryd.prog 62 #[.pointer (some ⟨m, 0, none⟩), .pointer (some ⟨F, 0, none⟩), .agg #[.int .i64 21, .int .i64 (j : Int), .int .i64 1]] w (DoesP W0 w X Y m V d F ⟨21, (j : Int), 1⟩ f g) := by
  obtain ⟨fn, at_, vars, arrs, stack⟩ := f
  simp only at h hj hv
  obtain ⟨w0, hw0⟩ : ∃ w0, w0 = w.alloc (.cells #[.int .i64 21, .int .i64 (j : Int), .int .i64 1] 44) := ⟨_, rfl⟩
  obtain ⟨P0, hP0⟩ : ∃ P0, P0 = w.heap.size := ⟨_, rfl⟩
  have hc0 : Chg (fun _ => False) w w0 := by rw [hw0]; exact (Chg.refl _ _).alloc _
  have hi0 : w0.heap[P0]? = some (.cells #[.int .i64 21, .int .i64 (j : Int), .int .i64 1] 44 (0, 0)) := by rw [hw0]; exact heap_new' hP0.symm
  obtain ⟨hm0, hg0⟩ := h.still hc0
  have HM0 := Lib.hid hm0
  have HG0 := Lib.hid hg0
  have HI0 := Lib.hid hi0
  have HWE := Lib.hid (And.intro hw0 hP0)
  have HPN : Hid (¬ X P0 ∧ ¬ Y P0) := Lib.hid ⟨fun e => by have := (h.lx _ e).2; omega, fun e => by have := (h.ly _ e).2; omega⟩
  have i0 := cell_of_block hi0 0
  have i1 := cell_of_block hi0 1
  have i2 := cell_of_block hi0 2
  simp at i0 i1 i2
  obtain ⟨VA, VB, VC, hs, hY1, hY2, hY3, hY4⟩ := hm0.fi
  obtain ⟨_, A, c, rfl⟩ := ownsRow_slice hs.va
  obtain ⟨b, rfl, hb, hcap, hfz, hcell⟩ := ownsRow_cell hs.va j hj
  have hx := hcell _ (nums_get vars j hj)
  have c0 := cell_of_block hs.box 0
  simp at c0
  obtain ⟨x, hxe⟩ : ∃ x, x = vars[j] := ⟨_, rfl⟩
  rw [← hxe] at hx
  obtain ⟨n, hn⟩ : ∃ n, n = vars.length := ⟨_, rfl⟩
  have hjn : j < n := by omega
  rw [← hn] at c0 hcap
  have HN := Lib.hid hn
  have HXE := Lib.hid hxe
  have HS := Lib.hid hs
  have HY := Lib.hid (And.intro hY1 (And.intro hY2 (And.intro hY3 hY4)))
  have hnb : n ≤ 1048576 := by omega
  clear hxe hn
  obtain ⟨mt, hp_, Sh, I0, I1, P, KV, CV, hms, hin⟩ := hm0.mi
  have cq := cell_of_block hms.box 4
  have fq := frozen_of_block hms.box 4
  simp at cq
  have HIN := Lib.hid hin
  have hnsw := hms.i1
  have CN := Lib.hid (next_any (w := w0.drew) (m := m) (o := 4) (V := I1) (l := g.i1) cq fq ((hms.i1.keep hm0.bel).keep (Below.refl _ _).drew))
  clear h hw0 hP0 hc0 hi0 hm0 hg0
  go_enter Tryd.func62, Tryd.ntmps62
  go_upto_region 1 with fail
  rw [← HWE.out.1, ← HWE.out.2]
  go_upto_region 19 with fail
  obtain ⟨wd, hwd⟩ : ∃ wd, wd = w0.drew := ⟨_, rfl⟩
  have hS : wd.cell? ⟨F, 0, none⟩ = some (.slice (some ⟨b, 0, none⟩) n c) ∧ wd.cell? ⟨P0, 1, none⟩ = some (.int .i64 (j : Int)) := by rw [hwd]; exact ⟨c0, i1⟩
  obtain ⟨hmd, hgd⟩ := HM0.out.still (w' := wd) (by rw [hwd]; exact (Chg.refl _ _).drew)
  have hmsd := hms.kept (w' := wd) (T := fun _ => False) (by rw [hwd]; exact (Chg.refl _ _).drew) HIN.out (fun _ _ x => x)
  have hsd := hs.kept (w' := wd) (T := fun _ => False) (by rw [hwd]; exact (Chg.refl _ _).drew) (fun x => x) (fun _ _ x => x) (fun _ _ x => x) (fun _ _ x => x)
  refine wp_region_ord (S := fun w' => w'.cell? ⟨F, 0, none⟩ = some (.slice (some ⟨b, 0, none⟩) n c) ∧ w'.cell? ⟨P0, 1, none⟩ = some (.int .i64 (j : Int))) (N := fun i => i != 9) (by kernel_rfl) [(0, true), (1, true), (2, true), (3, true), (4, true), (5, true), (6, true), (7, false), (8, true), (9, false)] (by kernel_rfl) ?_
  rw [← hwd]
  rw [← hwd] at CN
  have HGD := Lib.hid (HG0.out.trans hgd)
  have HMD := Lib.hid hmd
  have HSS := Lib.hid hS
  clear hwd hmd hgd c0 hx i0 i1 i2 cq fq hms hs
  iterate 7 (refine ord_look rfl hS rfl (by intro w hS; obtain ⟨p0, p1⟩ := hS; go_simp; with_reducible rfl) (fun c a w h => h) ?_; simp only [Act.put, List.setIfInBounds_toArray, List.set_cons_succ, List.set_cons_zero])
  obtain ⟨y, hy⟩ : ∃ y, y = g.i1.headD 0 := ⟨_, rfl⟩
  have HYV := Lib.hid hy
  clear hy
  refine ord_act rfl rfl (fun K hK => ?_)
  refine wp_call 75 _ _ Tryd.func75 rfl (by kernel_rfl) _ _ rfl #[.pointer (some ⟨m, 4, none⟩)] (by simp [Act.eval]) (R := fun v w' => v = .int .i64 y ∧ NextP wd m 4 I1 g.i1 (.returned v) w') (calls_ret CN.out (by intro e w' h; have h1 := h.1; subst h1; exact ⟨_, rfl, by rw [HYV.out], h⟩)) ?_
  rintro v w1 ⟨rfl, hnx⟩
  have hne : ¬ m = F := fun e => HMD.out.xy m HIN.out.m (by rw [e]; exact HY.out.1)
  obtain ⟨I', hm1s, hc1⟩ : ∃ I', MSt W0 w1 m mt hp_ Sh V I0 I' P KV CV d { g with i1 := g.i1.tail } ∧ Chg (fun k => k = m) wd w1 := by
    rcases hnx.2 with ⟨e1, rfl⟩ | ⟨V', rfl, hV⟩
    · refine ⟨I1, ?_, Chg.refl _ _⟩
      have e : ({ g with i1 := g.i1.tail } : GS) = g := by obtain ⟨a1, a2, a3, a4, a5, a6, a7, a8, a9⟩ := g; simp only at e1; subst e1; rfl
      rw [e]; exact hmsd
    · exact ⟨V', hmsd.set4 V' _ (hV W0 hnsw), Chg.set_cell ⟨m, 4, none⟩ V'⟩
  have hs1 := hsd.kept hc1 (fun e => hne e.symm) (fun k hk e => HMD.out.xy m HIN.out.m (by rw [← e]; exact HY.out.2.1 k hk)) (fun k hk e => HMD.out.xy m HIN.out.m (by rw [← e]; exact HY.out.2.2.1 k hk)) (fun k hk e => HMD.out.xy m HIN.out.m (by rw [← e]; exact HY.out.2.2.2 k hk))
  have hmi1 : MIs W0 w1 (fun k => X k ∨ wd.heap.size ≤ k) m V d { g with i1 := g.i1.tail } := ⟨mt, hp_, Sh, _, _, P, KV, CV, hm1s, ⟨.inl HIN.out.m, .inl HIN.out.mt, fun k hk => .inl (HIN.out.sh k hk), fun k hk => .inl (HIN.out.p k hk), fun k hk => .inl (HIN.out.k k hk), fun k hk => .inl (HIN.out.c k hk)⟩⟩
  obtain ⟨X1, hm1, hg1⟩ := HMD.out.mach hmi1 (hc1.mono (fun k _ e => by rw [e]; exact HIN.out.m))
  have hS1 : w1.cell? ⟨F, 0, none⟩ = some (.slice (some ⟨b, 0, none⟩) n c) ∧ w1.cell? ⟨P0, 1, none⟩ = some (.int .i64 (j : Int)) := ⟨hc1.cell HSS.out.1 (fun e => hne e.symm), hc1.cell HSS.out.2 (fun e => HPN.out.1 (by have e : P0 = m := e; rw [e]; exact HIN.out.m))⟩
  refine hK _ _ ⟨fun _ => hS1, ?_⟩
  clear hK K hS
  have hS := hS1
  try simp only [Act.put, List.setIfInBounds_toArray, List.set_cons_succ, List.set_cons_zero]
  iterate 1 (refine ord_look rfl hS rfl (by intro w hS; obtain ⟨p0, p1⟩ := hS; go_simp; with_reducible rfl) (fun c a w h => h) ?_; simp only [Act.put, List.setIfInBounds_toArray, List.set_cons_succ, List.set_cons_zero])
  refine ord_act rfl rfl (fun K hK => ?_)
  obtain ⟨b', e1, _, _, hfz1, hcell1⟩ := ownsRow_cell hs1.va j (by rw [← HN.out]; exact hjn)
  have e1 : b' = b := by injection e1 with e1; injection e1 with e1 _; exact e1.symm
  subst e1
  have hxc := hcell1 _ (nums_get vars j (by rw [← HN.out]; exact hjn))
  go_simp
  refine hK _ _ ⟨(fun h => by cases h), ?_⟩
  clear hK K
  try simp only [Act.put, List.setIfInBounds_toArray, List.set_cons_succ, List.set_cons_zero]
  refine ord_end ?_
  have hf2 := hs1.setvar j (by rw [← HN.out]; exact hjn) y
  have hc2 := Chg.set_cell (w := w1) ⟨b', j, none⟩ (.int .i64 y)
  have hfi : FIs (w1.setCell ⟨b', j, none⟩ (.int .i64 y)) (fun k => Y k ∨ w1.heap.size ≤ k) F (vars.set j y) arrs stack := ⟨_, _, _, hf2, .inl HY.out.1, fun k hk => .inl (HY.out.2.1 k hk), fun k hk => .inl (HY.out.2.2.1 k hk), fun k hk => .inl (HY.out.2.2.2 k hk)⟩
  obtain ⟨Y', hm2, hg2⟩ := hm1.frame hfi (hc2.mono (fun k _ e => HY.out.2.1 k (by have e : k = b' := e; rw [e]; rfl)))
  have HF := Lib.hid (And.intro hm2 ((HGD.out.trans hg1).trans hg2))
  clear hm1 hg1 hS CN hfi hf2 hc2 hxc hfz1 hcell1 hS1 hnx hm1s hc1 hs1 hmi1 hm2 hg2 hmsd hsd hnsw
  go_wp2_with fail
  go_ret
  refine ⟨X1, Y', _, _, _, rfl, HF.out.1, HF.out.2, fun _ => ⟨?_, rfl, rfl⟩⟩
  show vars.set j y = vars.set ((j : Int)).toNat (g.i1.headD 0)
  rw [show ((j : Int)).toNat = j by omega, HYV.out]
set_option maxHeartbeats 4000000 in
set_option maxRecDepth 100000 in
theorem does_clock {W0 w : World} {X Y : Nat → Prop} {m : Nat} {V : Value} {d : Nat} {g : GS} {F : Nat} {f : Fr} (h : Ms W0 w X Y m V d g F f.vars f.arrs f.stack) (a nn : Int) (hp : g.cl.length ≤ 1099511627776) (hl : f.stack.length ≤ 1099511627776) :
    Calls Tryd.prog 62 #[.pointer (some ⟨m, 0, none⟩), .pointer (some ⟨F, 0, none⟩), .agg #[.int .i64 25, .int .i64 a, .int .i64 nn]] w (DoesP W0 w X Y m V d F ⟨25, a, nn⟩ f g) := by
  obtain ⟨fn, at_, vars, arrs, stack⟩ := f
  simp only at h hp hl
  obtain ⟨w0, hw0⟩ : ∃ w0, w0 = w.alloc (.cells #[.int .i64 25, .int .i64 a, .int .i64 nn] 44) := ⟨_, rfl⟩
  obtain ⟨P0, hP0⟩ : ∃ P0, P0 = w.heap.size := ⟨_, rfl⟩
  have hc0 : Chg (fun _ => False) w w0 := by rw [hw0]; exact (Chg.refl _ _).alloc _
  have hi0 : w0.heap[P0]? = some (.cells #[.int .i64 25, .int .i64 a, .int .i64 nn] 44 (0, 0)) := by rw [hw0]; exact heap_new' hP0.symm
  obtain ⟨hm0, hg0⟩ := h.still hc0
  have HM0 := Lib.hid hm0
  have HG0 := Lib.hid hg0
  have HI0 := Lib.hid hi0
  have HWE := Lib.hid (And.intro hw0 hP0)
  have HPN : Hid (¬ X P0 ∧ ¬ Y P0) := Lib.hid ⟨fun e => by have := (h.lx _ e).2; omega, fun e => by have := (h.ly _ e).2; omega⟩
  have i0 := cell_of_block hi0 0
  have i1 := cell_of_block hi0 1
  have i2 := cell_of_block hi0 2
  simp at i0 i1 i2
  have hmi0 := hm0.mi
  obtain ⟨mt, hp_, Sh, I0, I1, P, KV, CV, hms, hin⟩ := hmi0
  have b0 := cell_of_block hms.box 0
  simp at b0
  have CN := Lib.hid (now_any hms.met)
  have CP := Lib.hid (push_any g.now hm0.fi hl)
  have HIN := Lib.hid hin
  have HMS := Lib.hid hms
  obtain ⟨i9, hi9, hz0, hz1, hz2⟩ := info_parts infoL
  clear hms hin
  clear h hw0 hP0 hc0 hi0 hm0 hg0
  go_enter Tryd.func62, Tryd.ntmps62
  go_upto_region 1 with fail
  rw [← HWE.out.1, ← HWE.out.2]
  go_wp2_with fail
  refine CN.out.mono ?_; rintro e wn ⟨rfl, rfl⟩
  go_wp2_with fail
  refine CP.out.mono ?_; rintro e w1 ⟨rfl, hf, hc⟩
  have hm1s := HMS.out.kept hc HIN.out (fun k hk => HM0.out.xy k hk)
  obtain ⟨Y1, hm1, hg1⟩ := HM0.out.frame hf hc
  obtain ⟨_, QA, qc, rfl⟩ := ownsRow_slice hm1s.cl
  have cq := cell_of_block hm1s.box 9
  have cm0 := cell_of_block hm1s.box 0
  simp at cq cm0
  obtain ⟨L, hL⟩ : ∃ L, L = g.cl.length := ⟨_, rfl⟩
  rw [← hL] at cq hp
  have HLL := Lib.hid hL
  have HM1 := Lib.hid hm1
  have HG1 := Lib.hid (HG0.out.trans hg1)
  clear hL hf hc hm1 hg1 CP CN b0 i0 i1 i2
  go_upto_region 22 with fail
  obtain ⟨wd, hwd⟩ : ∃ wd, wd = w1.drew := ⟨_, rfl⟩
  have hS : wd.cell? ⟨m, 9, none⟩ = some (.slice QA L qc) ∧ wd.cell? ⟨m, 0, none⟩ = some (.pointer (some ⟨mt, 0, none⟩)) := by rw [hwd]; exact ⟨cq, cm0⟩
  obtain ⟨hmd, hgd⟩ := HM1.out.still (w' := wd) (by rw [hwd]; exact (Chg.refl _ _).drew)
  have hmsd := hm1s.kept (w' := wd) (T := fun _ => False) (by rw [hwd]; exact (Chg.refl _ _).drew) HIN.out (fun _ _ x => x)
  refine wp_region_ord (S := fun w' => w'.cell? ⟨m, 9, none⟩ = some (.slice QA L qc) ∧ w'.cell? ⟨m, 0, none⟩ = some (.pointer (some ⟨mt, 0, none⟩))) (N := fun i => i != 18) (by kernel_rfl) [(0, true), (1, true), (2, true), (3, true), (4, true), (5, true), (6, true), (7, true), (8, true), (9, true), (10, true), (11, true), (12, false), (13, false), (14, false), (15, true), (16, true), (17, true), (18, false)] (by kernel_rfl) ?_
  rw [← hwd]
  have HGD := Lib.hid (HG1.out.trans hgd)
  have HMD := Lib.hid hmd
  clear hwd hmd hgd cq cm0 hm1s
  iterate 12 (refine ord_look rfl hS rfl (by intro w hS; obtain ⟨p0, p1⟩ := hS; go_simp; with_reducible rfl) (fun c a w h => h) ?_; simp only [Act.put, List.setIfInBounds_toArray, List.set_cons_succ, List.set_cons_zero])
  refine ord_act rfl rfl (fun K hK => ?_)
  refine wp_call 23 _ _ Tryd.func23 rfl (by kernel_rfl) _ _ rfl #[.pointer (some ⟨mt, 0, none⟩)] (by simp [Act.eval]) (R := fun v w' => v = .int .i64 g.now ∧ wd = w') (calls_ret (now_any hmsd.met) (by rintro e w' ⟨rfl, h1⟩; exact ⟨_, rfl, rfl, h1⟩)) ?_
  rintro v w2 ⟨rfl, rfl⟩
  refine hK _ _ ⟨fun _ => hS, ?_⟩
  clear hK K
  try simp only [Act.put, List.setIfInBounds_toArray, List.set_cons_succ, List.set_cons_zero]
  refine ord_act rfl rfl (fun K hK => ?_)
  go_simp
  obtain ⟨wx, hwx⟩ : ∃ wx, wx = wd.alloc (.cells #[.int .i64 g.now] 2) := ⟨_, rfl⟩
  obtain ⟨gg, hgg⟩ : ∃ gg, gg = wd.heap.size := ⟨_, rfl⟩
  have hcx : Chg (fun _ => False) wd wx := by rw [hwx]; exact (Chg.refl _ _).alloc _
  have hszx : wx.heap.size = gg + 1 := by rw [hwx, hgg]; simp
  have hnews : ∀ (j : Nat) u, ([.int .i64 g.now] : List Value)[j]? = some u → wx.cell? ((⟨gg, 0, none⟩ : Addr).add j) = some u := World.news_of_block (cs := #[.int .i64 g.now]) (t := 2) (fr := (0, 0)) (by rw [hwx]; exact heap_new' hgg.symm)
  have hmxs := hmsd.kept hcx HIN.out (fun _ _ x => x)
  rw [← hwx, ← hgg]
  have hSx : wx.cell? ⟨m, 9, none⟩ = some (.slice QA L qc) ∧ wx.cell? ⟨m, 0, none⟩ = some (.pointer (some ⟨mt, 0, none⟩)) := ⟨hcx.cell hS.1 (fun x => x), hcx.cell hS.2 (fun x => x)⟩
  refine hK _ _ ⟨fun _ => hSx, ?_⟩
  clear hK K hwx
  try simp only [Act.put, List.setIfInBounds_toArray, List.set_cons_succ, List.set_cons_zero]
  refine ord_act rfl rfl (fun K hK => ?_)
  have hrow := hmxs.cl
  rw [← HLL.out] at hrow
  refine wp_append_lies _ (.tmp 118) (.tmp 126) 25 rfl 0 2 i9 _ 1 8 Tryd.underlying25 hi9 hz0 hz1 hz2 rfl (by omega) (.slice QA L qc) L (nums g.cl) rfl hrow ⟨gg, 0, none⟩ 1 1 [.int .i64 g.now] rfl rfl hnews (by simp [Value.oneCell']) (by omega) (by unfold maxLen; omega) (by omega) (by omega) (gg + 1) hszx ?_
  intro q cap2 w2 hown2 hgrow2 hat2 hlt2
  have hc2 := Chg.of_grown hgrow2
  have hmne : ¬ (Value.slice QA L qc).ownBlock = some m := fun e => by
    have := hmxs.cm.1
    rw [← HLL.out] at this
    exact this e
  have hb2 := hc2.heap hmxs.box hmne
  have hS2 : w2.cell? ⟨m, 9, none⟩ = some (.slice QA L qc) ∧ w2.cell? ⟨m, 0, none⟩ = some (.pointer (some ⟨mt, 0, none⟩)) := ⟨hc2.cell hSx.1 hmne, hc2.cell hSx.2 hmne⟩
  refine hK _ _ ⟨fun _ => hS2, ?_⟩
  clear hK K
  try simp only [Act.put, List.setIfInBounds_toArray, List.set_cons_succ, List.set_cons_zero]
  clear hS
  have hS := hS2
  iterate 3 (refine ord_look rfl hS rfl (by intro w hS; obtain ⟨p0, p1⟩ := hS; go_simp; with_reducible rfl) (fun c a w h => h) ?_; simp only [Act.put, List.setIfInBounds_toArray, List.set_cons_succ, List.set_cons_zero])
  refine ord_act rfl rfl (fun K hK => ?_)
  have hfz := frozen_of_block hb2 9
  have hS21 := hS2.1
  go_simp
  refine hK _ _ ⟨(fun h => by cases h), ?_⟩
  clear hK K
  try simp only [Act.put, List.setIfInBounds_toArray, List.set_cons_succ, List.set_cons_zero]
  refine ord_end ?_
  have hrr : w2.ownsRow 0 2 1 (.slice (some ⟨q, 0, none⟩) (L + 1) cap2) (L + 1) (nums (g.cl ++ [g.now])) := by rw [nums_snoc]; exact hown2
  have hms2 := hmxs.set9 (x := g.now) (q := q) (cap := cap2) (L := L + 1) (by rw [← HLL.out]; exact hc2) hrr (by rw [← HLL.out]) (by rw [← HLL.out]; rcases hat2 with h | h; exact .inl h; exact .inr (by omega))
  have hsx := Chg.set_cell (w := w2) ⟨m, 9, none⟩ (.slice (some ⟨q, 0, none⟩) (L + 1) cap2)
  have hcX : Chg X wx (w2.setCell ⟨m, 9, none⟩ (.slice (some ⟨q, 0, none⟩) (L + 1) cap2)) := (hc2.mono (fun k _ e => HIN.out.c k (by rw [← HLL.out]; exact e))).then (hsx.mono (fun k _ e => by have e : k = m := e; rw [e]; exact HIN.out.m))
  have hin2 : MIn (fun k => X k ∨ wx.heap.size ≤ k) m mt Sh P KV (.slice (some ⟨q, 0, none⟩) (L + 1) cap2) := ⟨.inl HIN.out.m, .inl HIN.out.mt, fun k hk => .inl (HIN.out.sh k hk), fun k hk => .inl (HIN.out.p k hk), fun k hk => .inl (HIN.out.k k hk), fun k hk => by
    have hk : some q = some k := hk
    injection hk with hk
    rw [← hk]
    rcases hat2 with h | h
    · exact .inl (HIN.out.c q (by rw [← HLL.out]; exact h))
    · exact .inr (by omega)⟩
  have hmi : MIs W0 _ (fun k => X k ∨ wx.heap.size ≤ k) m V d { g with cl := g.cl ++ [g.now] } := ⟨mt, hp_, Sh, I0, I1, _, _, _, hms2, hin2⟩
  obtain ⟨hmx, hgx⟩ := HMD.out.still hcx
  obtain ⟨X', hm2, hg2⟩ := hmx.mach hmi hcX
  have HF := Lib.hid (And.intro hm2 ((HGD.out.trans hgx).trans hg2))
  clear hmxs hms2 hsx hcX hin2 hmi hmx hgx hm2 hg2 hrr hown2 hgrow2 hat2 hc2 hb2 hrow hcx hmsd hnews hS2 hSx hfz hS hS21
  go_wp2_with fail
  go_ret
  exact ⟨X', Y1, vars, arrs, _, rfl, HF.out.1, HF.out.2, fun _ => ⟨rfl, rfl, rfl⟩⟩
end Go.Proofs.YtdpimkbdieafgaaDoor
