/- interp: arrays; does, at whatever instruction but Call. -/
import Derived.Test.YtdpimkbdieafgaaDoorIntE
namespace Go.Proofs.YtdpimkbdieafgaaDoor
set_option linter.unusedVariables false
set_option linter.unusedSimpArgs false
open Go.RowKit

theorem setv_none {xss : List (List Int)} {id i : Int} (h : cellv xss id i = none) (v : Int) : setv xss id i v = xss := by
  unfold cellv at h
  unfold setv
  by_cases hc : 0 ≤ id ∧ 0 ≤ i
  · rw [if_pos hc] at h ⊢
    apply List.ext_getElem?
    intro k
    rw [List.getElem?_modify]
    by_cases e : id.toNat = k
    · subst e
      cases hx : xss[id.toNat]? with
      | none => simp
      | some ys =>
        rw [hx] at h
        simp only [Option.bind_some] at h
        have hl : ys.length ≤ i.toNat := by simpa using h
        simp [List.set_eq_of_length_le hl]
    · simp [e]
  · rw [if_neg hc]
theorem cellv_none (xss : List (List Int)) (at_ : Int) : cellv xss (-1) at_ = none := by unfold cellv; rw [if_neg (by omega)]
set_option maxHeartbeats 4000000 in
set_option maxRecDepth 100000 in
theorem arr_make {W0 w : World} {X Y : Nat → Prop} {m : Nat} {V : Value} {d : Nat} {g : GS} {F : Nat} {f : Fr} (h : Ms W0 w X Y m V d g F f.vars f.arrs f.stack) (j : Nat) (z : Int) (hj : j < f.arrs.length) (hv : f.arrs.length ≤ 1048576) :
    Calls Tryd.prog 76 #[.pointer (some ⟨m, 0, none⟩), .pointer (some ⟨F, 0, none⟩), .agg #[.int .i64 22, .int .i64 (j : Int), .int .i64 z]] w (DoesP W0 w X Y m V d F ⟨22, (j : Int), z⟩ f g) := by
  obtain ⟨fn, at_, vars, arrs, stack⟩ := f
  simp only at h hj hv
  obtain ⟨w0, hw0⟩ : ∃ w0, w0 = w.alloc (.cells #[.int .i64 22, .int .i64 (j : Int), .int .i64 z] 44) := ⟨_, rfl⟩
  obtain ⟨P0, hP0⟩ : ∃ P0, P0 = w.heap.size := ⟨_, rfl⟩
  have hc0 : Chg (fun _ => False) w w0 := by rw [hw0]; exact (Chg.refl _ _).alloc _
  have hi0 : w0.heap[P0]? = some (.cells #[.int .i64 22, .int .i64 (j : Int), .int .i64 z] 44 (0, 0)) := by rw [hw0]; exact heap_new' hP0.symm
  obtain ⟨hm0, hg0⟩ := h.still hc0
  have HM0 := Lib.hid hm0
  have HG0 := Lib.hid hg0
  have HI0 := Lib.hid hi0
  have HWE := Lib.hid (And.intro hw0 hP0)
  have HPN : Hid (¬ X P0 ∧ ¬ Y P0) := Lib.hid ⟨fun e => by have := (h.lx _ e).2; omega, fun e => by have := (h.ly _ e).2; omega⟩
  have i0 := cell_of_block hi0 0
  have i1 := cell_of_block hi0 1
  have i2 := cell_of_block hi0 2
  simp at i0 i1 i2
  obtain ⟨mt, hp_, Sh, I0, I1, P, KV, CV, hms, hin⟩ := hm0.mi
  have b1 := cell_of_block hms.box 1
  simp at b1
  have HIN := Lib.hid hin
  obtain ⟨mk, hmk⟩ : ∃ mk, mk = makev g.q g.xss z := ⟨_, rfl⟩
  obtain ⟨m1, m2, m3⟩ := mk
  have HMK := Lib.hid hmk
  have CM : Hid (Calls Tryd.prog 92 #[.pointer (some ⟨hp_, 0, none⟩), .int .i64 z] w0.drew fun e w' => e = .returned (.tuple #[.int .i64 m1, .int .i64 m2]) ∧ HeapIs w' (fun k => Sh k ∨ w0.drew.heap.size ≤ k) hp_ g.q m3 ∧ Chg Sh w0.drew w') := Lib.hid (by
    have h := heap_make_any (hms.hep.kept (w' := w0.drew) (T := fun _ => False) ((Chg.refl _ _).drew) (fun _ _ x => x)) z
    rw [← hmk] at h
    exact h)
  clear hmk
  clear h hw0 hP0 hc0 hi0 hm0 hg0
  go_enter Tryd.func76, Tryd.ntmps76
  go_upto_region 1 with fail
  rw [← HWE.out.1, ← HWE.out.2]
  go_upto_region 2 with fail
  obtain ⟨wd, hwd⟩ : ∃ wd, wd = w0.drew := ⟨_, rfl⟩
  have hS : wd.cell? ⟨m, 1, none⟩ = some (.pointer (some ⟨hp_, 0, none⟩)) ∧ wd.cell? ⟨P0, 2, none⟩ = some (.int .i64 z) := by rw [hwd]; exact ⟨b1, i2⟩
  obtain ⟨hmd, hgd⟩ := HM0.out.still (w' := wd) (by rw [hwd]; exact (Chg.refl _ _).drew)
  have hmsd := hms.kept (w' := wd) (T := fun _ => False) (by rw [hwd]; exact (Chg.refl _ _).drew) HIN.out (fun _ _ x => x)
  refine wp_region_ord (S := fun w' => w'.cell? ⟨m, 1, none⟩ = some (.pointer (some ⟨hp_, 0, none⟩)) ∧ w'.cell? ⟨P0, 2, none⟩ = some (.int .i64 z)) (N := fun i => true) (by kernel_rfl) [(0, true), (1, true), (2, true), (3, true), (4, true), (5, true), (6, false), (7, true), (8, true), (9, true), (10, true), (11, true)] (by kernel_rfl) ?_
  rw [← hwd]
  rw [← hwd] at CM
  have HGD := Lib.hid (HG0.out.trans hgd)
  have HMD := Lib.hid hmd
  have HSS := Lib.hid hS
  have HI1 : Hid (wd.cell? ⟨P0, 1, none⟩ = some (.int .i64 (j : Int))) := Lib.hid (by rw [hwd]; exact i1)
  clear hwd hmd hgd b1 i0 i1 i2 hms
  iterate 6 (refine ord_look rfl hS rfl (by intro w hS; obtain ⟨p0, p1⟩ := hS; go_simp; with_reducible rfl) (fun c a w h => h) ?_; simp only [Act.put, List.setIfInBounds_toArray, List.set_cons_succ, List.set_cons_zero])
  refine ord_act rfl rfl (fun K hK => ?_)
  refine wp_call 92 _ _ Tryd.func92 rfl (by kernel_rfl) _ _ rfl #[.pointer (some ⟨hp_, 0, none⟩), .int .i64 z] (by simp [Act.eval]) (R := fun v w' => v = .tuple #[.int .i64 m1, .int .i64 m2] ∧ HeapIs w' (fun k => Sh k ∨ wd.heap.size ≤ k) hp_ g.q m3 ∧ Chg Sh wd w') (calls_ret CM.out (by rintro e w' ⟨rfl, h1, h2⟩; exact ⟨_, rfl, rfl, h1, h2⟩)) ?_
  rintro v w1 ⟨rfl, hh1, hc1⟩
  have hm1s := hmsd.heap m3 hc1 hh1
  have hmi1 : MIs W0 w1 (fun k => X k ∨ wd.heap.size ≤ k) m V d { g with xss := m3 } := ⟨mt, hp_, _, _, _, P, KV, CV, hm1s, ⟨.inl HIN.out.m, .inl HIN.out.mt, fun k hk => hk.1.imp (HIN.out.sh k) id, fun k hk => .inl (HIN.out.p k hk), fun k hk => .inl (HIN.out.k k hk), fun k hk => .inl (HIN.out.c k hk)⟩⟩
  obtain ⟨X1, hm1, hg1⟩ := HMD.out.mach hmi1 (hc1.mono (fun k _ e => HIN.out.sh k e))
  have hP0 : ¬ Sh P0 := fun e => HPN.out.1 (HIN.out.sh _ e)
  have hS1 : w1.cell? ⟨m, 1, none⟩ = some (.pointer (some ⟨hp_, 0, none⟩)) ∧ w1.cell? ⟨P0, 2, none⟩ = some (.int .i64 z) := ⟨hc1.cell HSS.out.1 (fun e => hmsd.sm e), hc1.cell HSS.out.2 hP0⟩
  have HI2 : Hid (w1.cell? ⟨P0, 1, none⟩ = some (.int .i64 (j : Int))) := Lib.hid (hc1.cell HI1.out hP0)
  refine hK _ _ ⟨fun _ => hS1, ?_⟩
  clear hK K hS
  have hS := hS1
  try simp only [Act.put, List.setIfInBounds_toArray, List.set_cons_succ, List.set_cons_zero]
  iterate 5 (refine ord_look rfl hS rfl (by intro w hS; obtain ⟨p0, p1⟩ := hS; go_simp; with_reducible rfl) (fun c a w h => h) ?_; simp only [Act.put, List.setIfInBounds_toArray, List.set_cons_succ, List.set_cons_zero])
  refine ord_end ?_
  have HM1 := Lib.hid hm1
  have HG1 := Lib.hid (HGD.out.trans hg1)
  clear hm1 hg1 hS hS1 hmi1 hm1s hh1 hc1 hmsd CM
  obtain ⟨VA, VB, VC, hs, hY1, hY2, hY3, hY4⟩ := HM1.out.fi
  obtain ⟨_, A, c, rfl⟩ := ownsRow_slice hs.vb
  obtain ⟨b, rfl, hb, hcap, hfz, hcell⟩ := ownsRow_cell hs.vb j hj
  have hx := hcell _ (nums_get arrs j hj)
  have c0 := cell_of_block hs.box 1
  simp at c0
  obtain ⟨x, hxe⟩ : ∃ x, x = arrs[j] := ⟨_, rfl⟩
  rw [← hxe] at hx
  obtain ⟨n, hn⟩ : ∃ n, n = arrs.length := ⟨_, rfl⟩
  have hjn : j < n := by omega
  rw [← hn] at c0 hcap
  have HN := Lib.hid hn
  have HXE := Lib.hid hxe
  have HS := Lib.hid hs
  have HY := Lib.hid (And.intro hY1 (And.intro hY2 (And.intro hY3 hY4)))
  have hnb : n ≤ 1048576 := by omega
  clear hxe hn
  go_upto_region 3 with fail
  obtain ⟨we, hwe⟩ : ∃ we, we = w1.drew := ⟨_, rfl⟩
  have hS : we.cell? ⟨F, 1, none⟩ = some (.slice (some ⟨b, 0, none⟩) n c) ∧ we.cell? ⟨P0, 1, none⟩ = some (.int .i64 (j : Int)) := by rw [hwe]; exact ⟨c0, HI2.out⟩
  obtain ⟨hme, hge⟩ := HM1.out.still (w' := we) (by rw [hwe]; exact (Chg.refl _ _).drew)
  have hse := hs.kept (w' := we) (T := fun _ => False) (by rw [hwe]; exact (Chg.refl _ _).drew) (fun x => x) (fun _ _ x => x) (fun _ _ x => x) (fun _ _ x => x)
  refine wp_region_ord (S := fun w' => w'.cell? ⟨F, 1, none⟩ = some (.slice (some ⟨b, 0, none⟩) n c) ∧ w'.cell? ⟨P0, 1, none⟩ = some (.int .i64 (j : Int))) (N := fun i => i != 8) (by kernel_rfl) [(0, true), (1, true), (2, true), (3, true), (4, true), (5, true), (6, true), (7, true), (8, false)] (by kernel_rfl) ?_
  rw [← hwe]
  have HGE := Lib.hid (HG1.out.trans hge)
  have HME := Lib.hid hme
  have hxe : we.cell? ⟨b, j, none⟩ = some (.int .i64 x) := by rw [hwe]; exact hx
  have hfe : we.frozen? ⟨b, j, none⟩ = false := by rw [hwe]; exact hfz
  clear hwe hme hge c0 hx hs hfz hcell
  iterate 8 (refine ord_look rfl hS rfl (by intro w hS; obtain ⟨p0, p1⟩ := hS; go_simp; with_reducible rfl) (fun c a w h => h) ?_; simp only [Act.put, List.setIfInBounds_toArray, List.set_cons_succ, List.set_cons_zero])
  refine ord_act rfl rfl (fun K hK => ?_)
  go_simp
  refine hK _ _ ⟨(fun h => by cases h), ?_⟩
  clear hK K
  try simp only [Act.put, List.setIfInBounds_toArray, List.set_cons_succ, List.set_cons_zero]
  refine ord_end ?_
  have hf2 := hse.setarr j (by rw [← HN.out]; exact hjn) m1
  have hc2 := Chg.set_cell (w := we) ⟨b, j, none⟩ (.int .i64 m1)
  have hfi : FIs (we.setCell ⟨b, j, none⟩ (.int .i64 m1)) (fun k => Y k ∨ we.heap.size ≤ k) F vars (arrs.set j m1) stack := ⟨_, _, _, hf2, .inl HY.out.1, fun k hk => .inl (HY.out.2.1 k hk), fun k hk => .inl (HY.out.2.2.1 k hk), fun k hk => .inl (HY.out.2.2.2 k hk)⟩
  obtain ⟨Y', hm2, hg2⟩ := HME.out.frame hfi (hc2.mono (fun k _ e => HY.out.2.2.1 k (by have e : k = b := e; rw [e]; rfl)))
  have HF := Lib.hid (And.intro hm2 (HGE.out.trans hg2))
  clear hS hfi hf2 hc2 hse hm2 hg2 hxe hfe
  go_wp2_with fail
  go_ret
  have e : doesv ⟨22, (j : Int), z⟩ ⟨fn, at_, vars, arrs, stack⟩ g = (m2, ⟨fn, at_, vars, arrs.set j m1, stack⟩, { g with xss := m3 }) := by
    have h : doesv ⟨22, (j : Int), z⟩ ⟨fn, at_, vars, arrs, stack⟩ g = ((makev g.q g.xss z).2.1, ⟨fn, at_, vars, arrs.set ((j : Int)).toNat (makev g.q g.xss z).1, stack⟩, { g with xss := (makev g.q g.xss z).2.2 }) := rfl
    rw [h, ← HMK.out, show ((j : Int)).toNat = j by omega]
  unfold DoesP
  rw [e]
  exact ⟨X1, Y', _, _, _, rfl, HF.out.1, HF.out.2, fun _ => ⟨rfl, rfl, rfl⟩⟩
set_option maxHeartbeats 4000000 in
set_option maxRecDepth 100000 in
theorem arr_get {W0 w : World} {X Y : Nat → Prop} {m : Nat} {V : Value} {d : Nat} {g : GS} {F : Nat} {f : Fr} (h : Ms W0 w X Y m V d g F f.vars f.arrs f.stack) (j : Nat) (nn : Int) (s : List Int) (y : Int) (hst : f.stack = s ++ [y]) (hj : j < f.arrs.length) (hv : f.arrs.length ≤ 1048576) (hl : f.stack.length ≤ 1048576) :
    Calls Tryd.prog 76 #[.pointer (some ⟨m, 0, none⟩), .pointer (some ⟨F, 0, none⟩), .agg #[.int .i64 23, .int .i64 (j : Int), .int .i64 nn]] w (DoesP W0 w X Y m V d F ⟨23, (j : Int), nn⟩ f g) := by
  obtain ⟨fn, at_, vars, arrs, stack⟩ := f
  simp only at h hst hj hv hl
  obtain ⟨w0, hw0⟩ : ∃ w0, w0 = w.alloc (.cells #[.int .i64 23, .int .i64 (j : Int), .int .i64 nn] 44) := ⟨_, rfl⟩
  obtain ⟨P0, hP0⟩ : ∃ P0, P0 = w.heap.size := ⟨_, rfl⟩
  have hc0 : Chg (fun _ => False) w w0 := by rw [hw0]; exact (Chg.refl _ _).alloc _
  have hi0 : w0.heap[P0]? = some (.cells #[.int .i64 23, .int .i64 (j : Int), .int .i64 nn] 44 (0, 0)) := by rw [hw0]; exact heap_new' hP0.symm
  obtain ⟨hm0, hg0⟩ := h.still hc0
  have HM0 := Lib.hid hm0
  have HG0 := Lib.hid hg0
  have HI0 := Lib.hid hi0
  have HWE := Lib.hid (And.intro hw0 hP0)
  have HPN : Hid (¬ X P0 ∧ ¬ Y P0) := Lib.hid ⟨fun e => by have := (h.lx _ e).2; omega, fun e => by have := (h.ly _ e).2; omega⟩
  have i0 := cell_of_block hi0 0
  have i1 := cell_of_block hi0 1
  have i2 := cell_of_block hi0 2
  simp at i0 i1 i2
  subst hst
  have hsl : s.length ≤ 1048576 := by simp at hl; omega
  clear h hw0 hP0 hc0 hi0 hm0 hg0
  go_enter Tryd.func76, Tryd.ntmps76
  go_upto_region 1 with fail
  rw [← HWE.out.1, ← HWE.out.2]
  have HMB := HM0
  have HGB := HG0
  have HPB := HPN
  have HI1 := Lib.hid i1
  have HI0c := Lib.hid i0
  clear i1 i2
  go_upto_region 8 with fail
  obtain ⟨VA, VB, VC, hs, hY1, hY2, hY3, hY4⟩ := HMB.out.fi
  obtain ⟨_, A, c, rfl⟩ := ownsRow_slice hs.vb
  obtain ⟨b, rfl, hb, hcap, hfz, hcell⟩ := ownsRow_cell hs.vb j hj
  have hx := hcell _ (nums_get arrs j hj)
  have c0 := cell_of_block hs.box 1
  simp at c0
  obtain ⟨x, hxe⟩ : ∃ x, x = arrs[j] := ⟨_, rfl⟩
  rw [← hxe] at hx
  obtain ⟨n, hn⟩ : ∃ n, n = arrs.length := ⟨_, rfl⟩
  have hjn : j < n := by omega
  rw [← hn] at c0 hcap
  have HN := Lib.hid hn
  have HXE := Lib.hid hxe
  have HS := Lib.hid hs
  have HY := Lib.hid (And.intro hY1 (And.intro hY2 (And.intro hY3 hY4)))
  have hnb : n ≤ 1048576 := by omega
  clear hxe hn
  obtain ⟨_, A3, c3, rfl⟩ := ownsRow_slice hs.vc
  have esl : (s ++ [y]).length = s.length + 1 := by simp
  rw [esl] at hs
  have HYC := Lib.hid hY4
  obtain ⟨we, hwe⟩ : ∃ we, we = w0.drew := ⟨_, rfl⟩
  have hS : we.cell? ⟨F, 1, none⟩ = some (.slice (some ⟨b, 0, none⟩) n c) ∧ we.cell? ⟨P0, 1, none⟩ = some (.int .i64 (j : Int)) ∧ we.cell? ⟨b, j, none⟩ = some (.int .i64 x) := by rw [hwe]; exact ⟨c0, HI1.out, hx⟩
  obtain ⟨hme, hge⟩ := HMB.out.still (w' := we) (by rw [hwe]; exact (Chg.refl _ _).drew)
  have hse := hs.kept (w' := we) (T := fun _ => False) (by rw [hwe]; exact (Chg.refl _ _).drew) (fun x => x) (fun _ _ x => x) (fun _ _ x => x) (fun _ _ x => x)
  have HGE := Lib.hid (HGB.out.trans hge)
  have HME := Lib.hid hme
  have HSS := Lib.hid hS
  have hI0 : we.cell? ⟨P0, 0, none⟩ = some (.int .i64 23) := by rw [hwe]; exact HI0c.out
  have HI0e := Lib.hid hI0
  refine wp_region_ord (S := fun w' => w'.cell? ⟨F, 1, none⟩ = some (.slice (some ⟨b, 0, none⟩) n c) ∧ w'.cell? ⟨P0, 1, none⟩ = some (.int .i64 (j : Int)) ∧ w'.cell? ⟨b, j, none⟩ = some (.int .i64 x)) (N := fun i => true) (by kernel_rfl) [(0, true), (1, true), (2, true), (3, true), (4, true), (5, true), (6, true), (7, true), (8, true), (9, false), (10, true), (11, true)] (by kernel_rfl) ?_
  rw [← hwe]
  clear hwe hme hge c0 hx hs hfz hcell hI0
  iterate 9 (refine ord_look rfl hS rfl (by intro w hS; obtain ⟨p0, p1, p2⟩ := hS; go_simp; with_reducible rfl) (fun c a w h => h) ?_; simp only [Act.put, List.setIfInBounds_toArray, List.set_cons_succ, List.set_cons_zero])
  refine ord_act rfl rfl (fun K hK => ?_)
  refine wp_call 61 _ _ Tryd.func61 rfl (by kernel_rfl) _ _ rfl #[.pointer (some ⟨F, 0, none⟩)] (by simp [Act.eval]) (R := fun v w' => v = .int .i64 y ∧ FSt w' F VA (.slice (some ⟨b, 0, none⟩) arrs.length c) (.slice A3 s.length c3) vars arrs s ∧ Chg (fun k => k = F) we w') (calls_ret (pop_st hse (by omega)) (by rintro e w' ⟨rfl, h1, h2⟩; exact ⟨_, rfl, rfl, h1, h2⟩)) ?_
  rintro v w1 ⟨rfl, hf, hc⟩
  have d0 := cell_of_block hf.box 1
  simp at d0
  rw [← HN.out] at d0
  have hPF : ¬ P0 = F := fun e => HPB.out.2 (by rw [e]; exact HY.out.1)
  have hS1 : w1.cell? ⟨F, 1, none⟩ = some (.slice (some ⟨b, 0, none⟩) n c) ∧ w1.cell? ⟨P0, 1, none⟩ = some (.int .i64 (j : Int)) ∧ w1.cell? ⟨b, j, none⟩ = some (.int .i64 x) := ⟨d0, hc.cell HSS.out.2.1 hPF, hc.cell HSS.out.2.2 (fun e => hse.nb (congrArg some e))⟩
  have HI0f := Lib.hid (hc.cell HI0e.out hPF)
  refine hK _ _ ⟨fun _ => hS1, ?_⟩
  clear hK K hS
  have hS := hS1
  try simp only [Act.put, List.setIfInBounds_toArray, List.set_cons_succ, List.set_cons_zero]
  iterate 2 (refine ord_look rfl hS rfl (by intro w hS; obtain ⟨p0, p1, p2⟩ := hS; go_simp; with_reducible rfl) (fun c a w h => h) ?_; simp only [Act.put, List.setIfInBounds_toArray, List.set_cons_succ, List.set_cons_zero])
  refine ord_end ?_
  have hfi : FIs w1 (fun k => Y k ∨ we.heap.size ≤ k) F vars arrs s := ⟨_, _, _, hf, .inl HY.out.1, fun k hk => .inl (HY.out.2.1 k hk), fun k hk => .inl (HY.out.2.2.1 k hk), fun k hk => .inl (own_len HYC.out k hk)⟩
  obtain ⟨Y1, hm1, hg1⟩ := HME.out.frame hfi (hc.mono (fun k _ e => by rw [e]; exact HY.out.1))
  have HM1 := Lib.hid hm1
  have HG1 := Lib.hid (HGE.out.trans hg1)
  have HXJ : Hid (arrs.getD j 0 = x) := Lib.hid (by rw [HXE.out, List.getD_eq_getElem?_getD, List.getElem?_eq_getElem (by rw [← HN.out]; exact hjn)]; rfl)
  clear hm1 hg1 hfi hf hc hS hS1 d0 hse
  have i0 := HI0f.out
  obtain ⟨mt, hp_, Sh, I0, I1, P, KV, CV, hms, hin⟩ := HM1.out.mi
  have b1 := cell_of_block hms.box 1
  simp at b1
  have HIN := Lib.hid hin
  have HMS := Lib.hid hms
  have ed : doesv ⟨23, (j : Int), nn⟩ ⟨fn, at_, vars, arrs, s ++ [y]⟩ g = (match cellv g.xss x y with | some n => (0, ⟨fn, at_, vars, arrs, s ++ [n]⟩, g) | none => (7, ⟨fn, at_, vars, arrs, s ++ [y]⟩, g)) := by
    have hxj := HXJ.out
    simp only [List.getD_eq_getElem?_getD] at hxj
    simp [doesv, top_snoc, hxj]
    cases cellv g.xss x y <;> rfl
  have HED := Lib.hid ed
  clear ed hin
  by_cases hx1 : x = -1
  · have hcv : cellv g.xss x y = none := by rw [hx1]; exact cellv_none _ _
    rw [hcv] at HED
    simp only at HED
    subst hx1
    clear hms b1 hcv
    go_wp2_with fail
    go_ret
    unfold DoesP
    rw [HED.out]
    exact ⟨X, Y1, _, _, _, rfl, HM1.out, HG1.out, (fun h => by cases h)⟩
  · have hb1 : (x == -1) = false := by rw [beq_eq_false_iff_ne]; exact hx1
    have CG := Lib.hid (heap_get_any hms.hep x y)
    obtain ⟨cv, hcv⟩ : ∃ cv, cellv g.xss x y = cv := ⟨_, rfl⟩
    rw [hcv] at CG HED
    have CP := Lib.hid (push_any (cv.getD 0) HM1.out.fi (by omega))
    clear hms hcv hx1
    cases cv with
    | none =>
      simp only [Option.getD_none, Option.isSome_none] at CG CP
      simp only at HED
      go_wp2_with fail
      refine CG.out.mono ?_; rintro e w2 ⟨rfl, rfl⟩
      go_wp2_with fail
      refine CP.out.mono ?_; rintro e w2 ⟨rfl, hf, hc⟩
      obtain ⟨Y2, hm2, hg2⟩ := HM1.out.frame hf hc
      have HF := Lib.hid (And.intro hm2 (HG1.out.trans hg2))
      clear hf hc hm2 hg2 b1 i0
      go_wp2_with fail
      go_ret
      unfold DoesP
      rw [HED.out]
      exact ⟨X, Y2, _, _, _, rfl, HF.out.1, HF.out.2, (fun h => by cases h)⟩
    | some v =>
      simp only [Option.getD_some, Option.isSome_some] at CG CP
      simp only at HED
      go_wp2_with fail
      refine CG.out.mono ?_; rintro e w2 ⟨rfl, rfl⟩
      go_wp2_with fail
      refine CP.out.mono ?_; rintro e w2 ⟨rfl, hf, hc⟩
      obtain ⟨Y2, hm2, hg2⟩ := HM1.out.frame hf hc
      have HF := Lib.hid (And.intro hm2 (HG1.out.trans hg2))
      clear hf hc hm2 hg2 b1 i0
      go_wp2_with fail
      go_ret
      unfold DoesP
      rw [HED.out]
      exact ⟨X, Y2, _, _, _, rfl, HF.out.1, HF.out.2, fun _ => ⟨rfl, rfl, rfl⟩⟩
set_option maxHeartbeats 4000000 in
set_option maxRecDepth 100000 in
theorem arr_set {W0 w : World} {X Y : Nat → Prop} {m : Nat} {V : Value} {d : Nat} {g : GS} {F : Nat} {f : Fr} (h : Ms W0 w X Y m V d g F f.vars f.arrs f.stack) (j : Nat) (nn : Int) (s : List Int) (y : Int) (u : Int) (hst : f.stack = s ++ [y] ++ [u]) (hj : j < f.arrs.length) (hv : f.arrs.length ≤ 1048576) (hl : f.stack.length ≤ 1048576) :
    Calls Tryd.prog 76 #[.pointer (some ⟨m, 0, none⟩), .pointer (some ⟨F, 0, none⟩), .agg #[.int .i64 24, .int .i64 (j : Int), .int .i64 nn]] w (DoesP W0 w X Y m V d F ⟨24, (j : Int), nn⟩ f g) := by
  obtain ⟨fn, at_, vars, arrs, stack⟩ := f
  simp only at h hst hj hv hl
  obtain ⟨w0, hw0⟩ : ∃ w0, w0 = w.alloc (.cells #[.int .i64 24, .int .i64 (j : Int), .int .i64 nn] 44) := ⟨_, rfl⟩
  obtain ⟨P0, hP0⟩ : ∃ P0, P0 = w.heap.size := ⟨_, rfl⟩
  have hc0 : Chg (fun _ => False) w w0 := by rw [hw0]; exact (Chg.refl _ _).alloc _
  have hi0 : w0.heap[P0]? = some (.cells #[.int .i64 24, .int .i64 (j : Int), .int .i64 nn] 44 (0, 0)) := by rw [hw0]; exact heap_new' hP0.symm
  obtain ⟨hm0, hg0⟩ := h.still hc0
  have HM0 := Lib.hid hm0
  have HG0 := Lib.hid hg0
  have HI0 := Lib.hid hi0
  have HWE := Lib.hid (And.intro hw0 hP0)
  have HPN : Hid (¬ X P0 ∧ ¬ Y P0) := Lib.hid ⟨fun e => by have := (h.lx _ e).2; omega, fun e => by have := (h.ly _ e).2; omega⟩
  have i0 := cell_of_block hi0 0
  have i1 := cell_of_block hi0 1
  have i2 := cell_of_block hi0 2
  simp at i0 i1 i2
  subst hst
  have hsl : s.length ≤ 1048576 := by simp at hl; omega
  clear h hw0 hP0 hc0 hi0 hm0 hg0
  go_enter Tryd.func76, Tryd.ntmps76
  go_upto_region 1 with fail
  rw [← HWE.out.1, ← HWE.out.2]
  have CQ := Lib.hid (pop_any HM0.out.fi (by simp; omega))
  have HI1a := Lib.hid i1
  have HI0a := Lib.hid i0
  go_wp2_with fail
  refine CQ.out.mono ?_; rintro e wb ⟨rfl, hfb, hcb⟩
  have hYF : Y F := by obtain ⟨_, _, _, _, h, _⟩ := HM0.out.fi; exact h
  have hPF0 : ¬ P0 = F := fun e => HPN.out.2 (by rw [e]; exact hYF)
  obtain ⟨YB, hmb, hgb⟩ := HM0.out.frame (hfb.mono (fun k hk _ => .inl hk)) (hcb.mono (fun k _ e => by rw [e]; exact hYF))
  have HI1 := Lib.hid (hcb.cell HI1a.out hPF0)
  have HI0c := Lib.hid (hcb.cell HI0a.out hPF0)
  have HPB : Hid (¬ X P0 ∧ ¬ YB P0) := Lib.hid ⟨HPN.out.1, fun e => by
    rcases hgb.gy P0 e with h | h
    · exact HPN.out.2 h
    · have := World.block_lt_of_cell? _ _ HI1a.out; simp at this; omega⟩
  have HMB := Lib.hid hmb
  have HGB := Lib.hid (HG0.out.trans hgb)
  clear hfb hcb hmb hgb CQ i1 i2 i0
  go_upto_region 8 with fail
  obtain ⟨VA, VB, VC, hs, hY1, hY2, hY3, hY4⟩ := HMB.out.fi
  obtain ⟨_, A, c, rfl⟩ := ownsRow_slice hs.vb
  obtain ⟨b, rfl, hb, hcap, hfz, hcell⟩ := ownsRow_cell hs.vb j hj
  have hx := hcell _ (nums_get arrs j hj)
  have c0 := cell_of_block hs.box 1
  simp at c0
  obtain ⟨x, hxe⟩ : ∃ x, x = arrs[j] := ⟨_, rfl⟩
  rw [← hxe] at hx
  obtain ⟨n, hn⟩ : ∃ n, n = arrs.length := ⟨_, rfl⟩
  have hjn : j < n := by omega
  rw [← hn] at c0 hcap
  have HN := Lib.hid hn
  have HXE := Lib.hid hxe
  have HS := Lib.hid hs
  have HY := Lib.hid (And.intro hY1 (And.intro hY2 (And.intro hY3 hY4)))
  have hnb : n ≤ 1048576 := by omega
  clear hxe hn
  obtain ⟨_, A3, c3, rfl⟩ := ownsRow_slice hs.vc
  have esl : (s ++ [y]).length = s.length + 1 := by simp
  rw [esl] at hs
  have HYC := Lib.hid hY4
  obtain ⟨we, hwe⟩ : ∃ we, we = wb.drew := ⟨_, rfl⟩
  have hS : we.cell? ⟨F, 1, none⟩ = some (.slice (some ⟨b, 0, none⟩) n c) ∧ we.cell? ⟨P0, 1, none⟩ = some (.int .i64 (j : Int)) ∧ we.cell? ⟨b, j, none⟩ = some (.int .i64 x) := by rw [hwe]; exact ⟨c0, HI1.out, hx⟩
  obtain ⟨hme, hge⟩ := HMB.out.still (w' := we) (by rw [hwe]; exact (Chg.refl _ _).drew)
  have hse := hs.kept (w' := we) (T := fun _ => False) (by rw [hwe]; exact (Chg.refl _ _).drew) (fun x => x) (fun _ _ x => x) (fun _ _ x => x) (fun _ _ x => x)
  have HGE := Lib.hid (HGB.out.trans hge)
  have HME := Lib.hid hme
  have HSS := Lib.hid hS
  have hI0 : we.cell? ⟨P0, 0, none⟩ = some (.int .i64 24) := by rw [hwe]; exact HI0c.out
  have HI0e := Lib.hid hI0
  refine wp_region_ord (S := fun w' => w'.cell? ⟨F, 1, none⟩ = some (.slice (some ⟨b, 0, none⟩) n c) ∧ w'.cell? ⟨P0, 1, none⟩ = some (.int .i64 (j : Int)) ∧ w'.cell? ⟨b, j, none⟩ = some (.int .i64 x)) (N := fun i => true) (by kernel_rfl) [(0, true), (1, true), (2, true), (3, true), (4, true), (5, true), (6, true), (7, true), (8, true), (9, false), (10, true), (11, true)] (by kernel_rfl) ?_
  rw [← hwe]
  clear hwe hme hge c0 hx hs hfz hcell hI0
  iterate 9 (refine ord_look rfl hS rfl (by intro w hS; obtain ⟨p0, p1, p2⟩ := hS; go_simp; with_reducible rfl) (fun c a w h => h) ?_; simp only [Act.put, List.setIfInBounds_toArray, List.set_cons_succ, List.set_cons_zero])
  refine ord_act rfl rfl (fun K hK => ?_)
  refine wp_call 61 _ _ Tryd.func61 rfl (by kernel_rfl) _ _ rfl #[.pointer (some ⟨F, 0, none⟩)] (by simp [Act.eval]) (R := fun v w' => v = .int .i64 y ∧ FSt w' F VA (.slice (some ⟨b, 0, none⟩) arrs.length c) (.slice A3 s.length c3) vars arrs s ∧ Chg (fun k => k = F) we w') (calls_ret (pop_st hse (by omega)) (by rintro e w' ⟨rfl, h1, h2⟩; exact ⟨_, rfl, rfl, h1, h2⟩)) ?_
  rintro v w1 ⟨rfl, hf, hc⟩
  have d0 := cell_of_block hf.box 1
  simp at d0
  rw [← HN.out] at d0
  have hPF : ¬ P0 = F := fun e => HPB.out.2 (by rw [e]; exact HY.out.1)
  have hS1 : w1.cell? ⟨F, 1, none⟩ = some (.slice (some ⟨b, 0, none⟩) n c) ∧ w1.cell? ⟨P0, 1, none⟩ = some (.int .i64 (j : Int)) ∧ w1.cell? ⟨b, j, none⟩ = some (.int .i64 x) := ⟨d0, hc.cell HSS.out.2.1 hPF, hc.cell HSS.out.2.2 (fun e => hse.nb (congrArg some e))⟩
  have HI0f := Lib.hid (hc.cell HI0e.out hPF)
  refine hK _ _ ⟨fun _ => hS1, ?_⟩
  clear hK K hS
  have hS := hS1
  try simp only [Act.put, List.setIfInBounds_toArray, List.set_cons_succ, List.set_cons_zero]
  iterate 2 (refine ord_look rfl hS rfl (by intro w hS; obtain ⟨p0, p1, p2⟩ := hS; go_simp; with_reducible rfl) (fun c a w h => h) ?_; simp only [Act.put, List.setIfInBounds_toArray, List.set_cons_succ, List.set_cons_zero])
  refine ord_end ?_
  have hfi : FIs w1 (fun k => YB k ∨ we.heap.size ≤ k) F vars arrs s := ⟨_, _, _, hf, .inl HY.out.1, fun k hk => .inl (HY.out.2.1 k hk), fun k hk => .inl (HY.out.2.2.1 k hk), fun k hk => .inl (own_len HYC.out k hk)⟩
  obtain ⟨Y1, hm1, hg1⟩ := HME.out.frame hfi (hc.mono (fun k _ e => by rw [e]; exact HY.out.1))
  have HM1 := Lib.hid hm1
  have HG1 := Lib.hid (HGE.out.trans hg1)
  have HXJ : Hid (arrs.getD j 0 = x) := Lib.hid (by rw [HXE.out, List.getD_eq_getElem?_getD, List.getElem?_eq_getElem (by rw [← HN.out]; exact hjn)]; rfl)
  clear hm1 hg1 hfi hf hc hS hS1 d0 hse
  have i0 := HI0f.out
  obtain ⟨mt, hp_, Sh, I0, I1, P, KV, CV, hms, hin⟩ := HM1.out.mi
  have b1 := cell_of_block hms.box 1
  simp at b1
  have HIN := Lib.hid hin
  have HMS := Lib.hid hms
  have ed : doesv ⟨24, (j : Int), nn⟩ ⟨fn, at_, vars, arrs, s ++ [y] ++ [u]⟩ g = (match cellv g.xss x y with | some _ => (0, ⟨fn, at_, vars, arrs, s⟩, { g with xss := setv g.xss x y u }) | none => (7, ⟨fn, at_, vars, arrs, s ++ [y] ++ [u]⟩, g)) := by
    have hxj := HXJ.out
    simp only [List.getD_eq_getElem?_getD] at hxj
    have e1 : (s ++ [y] ++ [u]).dropLast = s ++ [y] := List.dropLast_concat
    have e2 : (s ++ [y]).dropLast = s := List.dropLast_concat
    simp only [doesv, e1, e2, top_snoc]
    simp [hxj]
    cases cellv g.xss x y <;> rfl
  have HED := Lib.hid ed
  clear ed hin
  by_cases hx1 : x = -1
  · have hcv : cellv g.xss x y = none := by rw [hx1]; exact cellv_none _ _
    rw [hcv] at HED
    simp only at HED
    subst hx1
    clear hms b1 hcv
    go_wp2_with fail
    go_ret
    unfold DoesP
    rw [HED.out]
    exact ⟨X, Y1, _, _, _, rfl, HM1.out, HG1.out, (fun h => by cases h)⟩
  · have hb1 : (x == -1) = false := by rw [beq_eq_false_iff_ne]; exact hx1
    have CG := Lib.hid (heap_set_any hms.hep x y u)
    obtain ⟨cv, hcv⟩ : ∃ cv, cellv g.xss x y = cv := ⟨_, rfl⟩
    rw [hcv] at CG HED
    have HCV := Lib.hid hcv
    clear hms hcv hx1
    cases cv with
    | none =>
      simp only [Option.isSome_none] at CG
      simp only at HED
      go_wp2_with fail
      refine CG.out.mono ?_; rintro e w2 ⟨rfl, hh, hc⟩
      have hh2 : HeapIs w2 (fun k => Sh k ∨ w1.heap.size ≤ k) hp_ g.q (setv g.xss x y u) := hh.mono (fun k hk => .inl hk)
      have esv : setv g.xss x y u = g.xss := setv_none HCV.out u
      rw [esv] at hh2
      have hms2 := HMS.out.heap g.xss hc hh2
      have hmi2 : MIs W0 w2 (fun k => X k ∨ w1.heap.size ≤ k) m V d g := ⟨mt, hp_, _, _, _, P, KV, CV, hms2, ⟨.inl HIN.out.m, .inl HIN.out.mt, fun k hk => hk.1.imp (HIN.out.sh k) id, fun k hk => .inl (HIN.out.p k hk), fun k hk => .inl (HIN.out.k k hk), fun k hk => .inl (HIN.out.c k hk)⟩⟩
      obtain ⟨X2, hm2, hg2⟩ := HM1.out.mach hmi2 (hc.mono (fun k _ e => HIN.out.sh k e))
      have HF := Lib.hid (And.intro hm2 (HG1.out.trans hg2))
      clear hh hc hh2 hms2 hmi2 hm2 hg2 b1 i0 esv
      go_wp2_with fail
      go_ret
      unfold DoesP
      rw [HED.out]
      exact ⟨X2, Y1, _, _, _, rfl, HF.out.1, HF.out.2, (fun h => by cases h)⟩
    | some v =>
      simp only [Option.isSome_some] at CG
      simp only at HED
      go_wp2_with fail
      refine CG.out.mono ?_; rintro e w2 ⟨rfl, hh, hc⟩
      have hh2 : HeapIs w2 (fun k => Sh k ∨ w1.heap.size ≤ k) hp_ g.q (setv g.xss x y u) := hh.mono (fun k hk => .inl hk)
      have hms2 := HMS.out.heap _ hc hh2
      have hmi2 : MIs W0 w2 (fun k => X k ∨ w1.heap.size ≤ k) m V d { g with xss := setv g.xss x y u } := ⟨mt, hp_, _, _, _, P, KV, CV, hms2, ⟨.inl HIN.out.m, .inl HIN.out.mt, fun k hk => hk.1.imp (HIN.out.sh k) id, fun k hk => .inl (HIN.out.p k hk), fun k hk => .inl (HIN.out.k k hk), fun k hk => .inl (HIN.out.c k hk)⟩⟩
      obtain ⟨X2, hm2, hg2⟩ := HM1.out.mach hmi2 (hc.mono (fun k _ e => HIN.out.sh k e))
      have HF := Lib.hid (And.intro hm2 (HG1.out.trans hg2))
      clear hh hc hh2 hms2 hmi2 hm2 hg2 b1 i0
      go_wp2_with fail
      go_ret
      unfold DoesP
      rw [HED.out]
      exact ⟨X2, Y1, _, _, _, rfl, HF.out.1, HF.out.2, fun _ => ⟨rfl, rfl, rfl⟩⟩
set_option maxHeartbeats 4000000 in
set_option maxRecDepth 100000 in
theorem does_arr {W0 w : World} {X Y : Nat → Prop} {m : Nat} {V : Value} {d : Nat} {g : GS} {F : Nat} {f : Fr} (h : Ms W0 w X Y m V d g F f.vars f.arrs f.stack) (op z a : Int) (ho : op = 22 ∨ op = 23 ∨ op = 24) (hC : ∀ w0, Gr w X Y w0 X Y → Ms W0 w0 X Y m V d g F f.vars f.arrs f.stack → Calls Tryd.prog 76 #[.pointer (some ⟨m, 0, none⟩), .pointer (some ⟨F, 0, none⟩), .agg #[.int .i64 op, .int .i64 a, .int .i64 z]] w0 (DoesP W0 w0 X Y m V d F ⟨op, a, z⟩ f g)) :
    Calls Tryd.prog 62 #[.pointer (some ⟨m, 0, none⟩), .pointer (some ⟨F, 0, none⟩), .agg #[.int .i64 op, .int .i64 a, .int .i64 z]] w (DoesP W0 w X Y m V d F ⟨op, a, z⟩ f g) := by
  obtain ⟨fn, at_, vars, arrs, stack⟩ := f
  simp only at h hC
  obtain ⟨w0, hw0⟩ : ∃ w0, w0 = w.alloc (.cells #[.int .i64 op, .int .i64 a, .int .i64 z] 44) := ⟨_, rfl⟩
  obtain ⟨P0, hP0⟩ : ∃ P0, P0 = w.heap.size := ⟨_, rfl⟩
  have hc0 : Chg (fun _ => False) w w0 := by rw [hw0]; exact (Chg.refl _ _).alloc _
  have hi0 : w0.heap[P0]? = some (.cells #[.int .i64 op, .int .i64 a, .int .i64 z] 44 (0, 0)) := by rw [hw0]; exact heap_new' hP0.symm
  obtain ⟨hm0, hg0⟩ := h.still hc0
  have HM0 := Lib.hid hm0
  have HG0 := Lib.hid hg0
  have HI0 := Lib.hid hi0
  have HWE := Lib.hid (And.intro hw0 hP0)
  have HPN : Hid (¬ X P0 ∧ ¬ Y P0) := Lib.hid ⟨fun e => by have := (h.lx _ e).2; omega, fun e => by have := (h.ly _ e).2; omega⟩
  have i0 := cell_of_block hi0 0
  have i1 := cell_of_block hi0 1
  have i2 := cell_of_block hi0 2
  simp at i0 i1 i2
  have CA := Lib.hid (hC w0 hg0 hm0)
  clear h hw0 hP0 hc0 hi0 hm0 hg0
  go_enter Tryd.func62, Tryd.ntmps62
  go_upto_region 1 with fail
  rw [← HWE.out.1, ← HWE.out.2]
  obtain ⟨dv, hdv⟩ : ∃ dv, doesv ⟨op, a, z⟩ ⟨fn, at_, vars, arrs, stack⟩ g = dv := ⟨_, rfl⟩
  have HDV := Lib.hid hdv
  have CB : Hid (Calls Tryd.prog 76 #[.pointer (some ⟨m, 0, none⟩), .pointer (some ⟨F, 0, none⟩), .agg #[.int .i64 op, .int .i64 a, .int .i64 z]] w0 fun e w' => ∃ X' Y' vars' arrs' stack', e = .returned (.int .i64 dv.1) ∧ Ms W0 w' X' Y' m V d dv.2.2 F vars' arrs' stack' ∧ Gr w0 X Y w' X' Y' ∧ (dv.1 = 0 → vars' = dv.2.1.vars ∧ arrs' = dv.2.1.arrs ∧ stack' = dv.2.1.stack)) := Lib.hid (by rw [← hdv]; exact CA.out)
  clear hC hdv CA
  rcases ho with rfl | rfl | rfl
  all_goals
    go_wp2_with fail
    refine CB.out.mono ?_; rintro e w1 ⟨X1, Y1, v1, a1, s1, rfl, hm1, hg1, hh⟩
    have HF := Lib.hid (And.intro hm1 (And.intro (HG0.out.trans hg1) hh))
    clear hm1 hg1 hh CB i0 i1 i2
    go_wp2_with fail
    go_ret
    unfold DoesP
    rw [HDV.out]
    exact ⟨X1, Y1, _, _, _, rfl, HF.out⟩
set_option maxHeartbeats 4000000 in
set_option maxRecDepth 100000 in
theorem does_op {W0 w : World} {X Y : Nat → Prop} {m : Nat} {V : Value} {d : Nat} {g : GS} {F : Nat} {f : Fr} (h : Ms W0 w X Y m V d g F f.vars f.arrs f.stack) (op z a : Int) (ho : 4 ≤ op ∧ op ≤ 14) (hC : ∀ w0, Gr w X Y w0 X Y → Ms W0 w0 X Y m V d g F f.vars f.arrs f.stack → ∃ r s, Calls Tryd.prog 77 #[.pointer (some ⟨F, 0, none⟩), .int .i64 op] w0 (RecP W0 w0 X Y m V d g F f.vars f.arrs s r) ∧ doesv ⟨op, a, z⟩ f g = if r.2 = true then (0, ⟨f.fn, f.at_, f.vars, f.arrs, s ++ [r.1]⟩, g) else (7, f, g)) :
    Calls Tryd.prog 62 #[.pointer (some ⟨m, 0, none⟩), .pointer (some ⟨F, 0, none⟩), .agg #[.int .i64 op, .int .i64 a, .int .i64 z]] w (DoesP W0 w X Y m V d F ⟨op, a, z⟩ f g) := by
  obtain ⟨fn, at_, vars, arrs, stack⟩ := f
  simp only at h hC
  obtain ⟨w0, hw0⟩ : ∃ w0, w0 = w.alloc (.cells #[.int .i64 op, .int .i64 a, .int .i64 z] 44) := ⟨_, rfl⟩
  obtain ⟨P0, hP0⟩ : ∃ P0, P0 = w.heap.size := ⟨_, rfl⟩
  have hc0 : Chg (fun _ => False) w w0 := by rw [hw0]; exact (Chg.refl _ _).alloc _
  have hi0 : w0.heap[P0]? = some (.cells #[.int .i64 op, .int .i64 a, .int .i64 z] 44 (0, 0)) := by rw [hw0]; exact heap_new' hP0.symm
  obtain ⟨hm0, hg0⟩ := h.still hc0
  have HM0 := Lib.hid hm0
  have HG0 := Lib.hid hg0
  have HI0 := Lib.hid hi0
  have HWE := Lib.hid (And.intro hw0 hP0)
  have HPN : Hid (¬ X P0 ∧ ¬ Y P0) := Lib.hid ⟨fun e => by have := (h.lx _ e).2; omega, fun e => by have := (h.ly _ e).2; omega⟩
  have i0 := cell_of_block hi0 0
  have i1 := cell_of_block hi0 1
  have i2 := cell_of_block hi0 2
  simp at i0 i1 i2
  obtain ⟨r, s, hca, hdv⟩ := hC w0 hg0 hm0
  have CA := Lib.hid hca
  clear h hw0 hP0 hc0 hi0 hm0 hg0
  go_enter Tryd.func62, Tryd.ntmps62
  go_upto_region 1 with fail
  rw [← HWE.out.1, ← HWE.out.2]
  have HD := Lib.hid hdv
  clear hC hdv hca
  have t1 : (op == 1) = false := by rw [beq_eq_false_iff_ne]; omega
  have t2 : (op == 2) = false := by rw [beq_eq_false_iff_ne]; omega
  have t3 : (op == 3) = false := by rw [beq_eq_false_iff_ne]; omega
  have t17 : (op == 17) = false := by rw [beq_eq_false_iff_ne]; omega
  have t19 : (op == 19) = false := by rw [beq_eq_false_iff_ne]; omega
  have t20 : (op == 20) = false := by rw [beq_eq_false_iff_ne]; omega
  have t21 : (op == 21) = false := by rw [beq_eq_false_iff_ne]; omega
  have t25 : (op == 25) = false := by rw [beq_eq_false_iff_ne]; omega
  have t22 : (op == 22) = false := by rw [beq_eq_false_iff_ne]; omega
  have t23 : (op == 23) = false := by rw [beq_eq_false_iff_ne]; omega
  have t24 : (op == 24) = false := by rw [beq_eq_false_iff_ne]; omega
  go_wp2_with fail
  refine CA.out.mono ?_; rintro e w1 ⟨Y1, s1, rfl, hm1, hg1, hh⟩
  have HF := Lib.hid (And.intro hm1 (And.intro (HG0.out.trans hg1) hh))
  clear hm1 hg1 hh CA i0 i1 i2
  obtain ⟨r1, r2⟩ := r
  simp only at HD HF ⊢
  cases r2 with
  | false =>
    go_wp2_with fail
    go_ret
    unfold DoesP
    rw [HD.out]
    exact ⟨X, Y1, _, _, _, rfl, HF.out.1, HF.out.2.1, (fun h => by cases h)⟩
  | true =>
    go_wp2_with fail
    go_ret
    unfold DoesP
    rw [HD.out]
    exact ⟨X, Y1, _, _, _, rfl, HF.out.1, HF.out.2.1, fun _ => ⟨rfl, rfl, HF.out.2.2 (by first | rfl | trivial)⟩⟩
end Go.Proofs.YtdpimkbdieafgaaDoor
