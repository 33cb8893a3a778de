/- fold: behind. -/
import Derived.Test.YtgiegkacilfofabDoorFoldRep
namespace Go.Proofs.YtgiegkacilfofabDoor
set_option linter.unusedVariables false
set_option linter.unusedSimpArgs false
open Go.RowKit

def pushR (n : Int) : InsR := ⟨1, 0, n⟩
/-- what follows a Push that nobody jumps behind of -/
def behindV (l : List InsR) (at_ : Nat) (x y : InsR) : Option (List InsR) :=
  if y.op = 4 ∨ y.op = 5 then some (replv l at_ 2 [pushR (doV (y.op + 2) x.n 0).1])
  else if y.op = 16 ∧ x.n = 0 then some (replv l at_ 2 [⟨15, y.a, 0⟩])
  else if y.op = 16 then some (replv l at_ 2 [])
  else if y.op ≠ 1 ∨ freev l ((at_ : Int) + 2) = false then none
  else match l[at_ + 2]? with
    | none => none
    | some z => if z.op < 6 ∨ 14 < z.op then none else if (doV (z.op + 2) x.n y.n).2 = true then some (replv l at_ 3 [pushR (doV (z.op + 2) x.n y.n).1]) else none
theorem src_one {w : World} {B : Nat} {op a n : Int} (h : w.heap[B]? = some (.cells #[.int .i64 op, .int .i64 a, .int .i64 n] 44 (0, 0))) : Src w (.slice (some ⟨B, 0, none⟩) 1 1) 1 (insCells [⟨op, a, n⟩]) :=
  .inr ⟨B, 0, 1, rfl, lt_of_heap h, Nat.le_refl _, by simp [maxLen], fun j u hu => by rw [Nat.zero_add, cell_of_block h]; simpa [insCells, InsR.cells] using hu⟩
theorem src_none (w : World) : Src w (.slice none 0 0) 0 (insCells []) := .inl ⟨⟨none, 0, rfl⟩, rfl, rfl⟩
/-- what a rule leaves -/
def Ruled (w : World) (F : Nat) (V : Value) (l : List InsR) (o : Option (List InsR)) (e : Ending) (w' : World) : Prop :=
  e = .returned (.bool o.isSome) ∧ ∃ V', FoldIs w' F V' (o.getD l) ∧ V'.ownBlock = V.ownBlock ∧ Chg (fun k => k = F ∨ V.ownBlock = some k) w w'
theorem Ruled.none {w w' : World} {F : Nat} {V : Value} {l : List InsR} (h : FoldIs w F V l) (hb : Below w.heap.size w w') : Ruled w F V l none (.returned (.bool false)) w' := ⟨rfl, V, h.keep hb, rfl, (Below.chg hb).mono (fun _ _ x => x.elim)⟩
theorem Ruled.some {w w1 w' : World} {F : Nat} {V V' : Value} {l l' : List InsR} (hb : Below w.heap.size w w1) (h : FoldIs w' F V' l') (ho : V'.ownBlock = V.ownBlock) (hc : Chg (fun k => k = F ∨ V.ownBlock = some k) w1 w') : Ruled w F V l (some l') (.returned (.bool true)) w' := ⟨rfl, V', h, ho, (Below.chg hb).trans hc (fun _ _ x => x.elim) (fun _ _ x => x)⟩

set_option maxHeartbeats 4000000 in
set_option maxRecDepth 100000 in
theorem behind_any {w : World} {F : Nat} {V : Value} {l : List InsR} (at_ : Nat) (x y : InsR) (h : FoldIs w F V l) (hx : l[at_]? = some x) (hy : l[at_ + 1]? = some y) (hl : l.length ≤ 1048576) (hwl : ∀ x ∈ l, WfI x) :
    Calls Tryd.prog 74 #[.pointer (some ⟨F, 0, none⟩), .int .i64 at_] w fun e w' => Ruled w F V l (behindV l at_ x y) e w' := by
  have hal : at_ + 1 < l.length := (List.getElem?_eq_some_iff.1 hy).1
  have hwy : WfI y := hwl y (List.mem_of_getElem? hy)
  have CREP : Hid (∀ (wx : World) (many : Nat) (bs : List InsR) (u : Value), Below w.heap.size w wx → bs.length ≤ 1 → bs.length < many → many ≤ 100 → at_ + many ≤ l.length → Src wx u bs.length (insCells bs) → (∀ x ∈ bs, WfI x) →
      Calls Tryd.prog 72 #[.pointer (some ⟨F, 0, none⟩), .int .i64 at_, .int .i64 many, u] wx fun e w' => e = .returned (.tuple #[]) ∧ Ruled w F V l (some (replv l at_ many bs)) (.returned (.bool true)) w') := Lib.hid (fun wx many bs u hb h1 h2 h3 h4 h5 h6 =>
    (replace_any at_ many bs u (h.keep hb) h1 h2 h3 h4 h5 (by omega) hwl h6).mono fun e w' ⟨he, V', g1, g2, g3⟩ => ⟨he, Ruled.some hb g1 g2 g3⟩)
  have CFR : Hid (∀ wx, Below w.heap.size w wx → Calls Tryd.prog 73 #[.pointer (some ⟨F, 0, none⟩), .int .i64 ((at_ : Int) + 2)] wx fun e w' => e = .returned (.bool (freev l ((at_ : Int) + 2))) ∧ Below wx.heap.size wx w') := Lib.hid (fun wx hb => free_any ((at_ : Int) + 2) (h.keep hb) (by omega))
  have HN : Hid (∀ wx, Below w.heap.size w wx → Ruled w F V l none (.returned (.bool false)) wx) := Lib.hid (fun wx hb => Ruled.none h hb)
  obtain ⟨fr, hfr⟩ : ∃ fr, freev l ((at_ : Int) + 2) = fr := ⟨_, rfl⟩
  obtain ⟨n, hn⟩ : ∃ n, n = l.length := ⟨_, rfl⟩
  obtain ⟨_, VA, vc, rfl⟩ := ownsRow_slice h.row
  obtain ⟨res, hres⟩ : ∃ res, behindV l at_ x y = res := ⟨_, rfl⟩
  rw [hres]
  unfold behindV at hres
  rw [hfr] at CFR hres
  obtain ⟨g, cap, e, hgl, hcells⟩ := ownsRow_at h.row (by omega)
  injection e with e1 e2 e3
  subst e1 e3
  have hcell : ∀ (j : Nat) (z : InsR), l[j]? = some z → ∀ wx, Below w.heap.size w wx → wx.cell? ⟨g, j * 3, none⟩ = some (.int .i64 z.op) ∧ wx.cell? ⟨g, j * 3 + 1, none⟩ = some (.int .i64 z.a) ∧ wx.cell? ⟨g, j * 3 + 2, none⟩ = some (.int .i64 z.n) := fun j z hz wx hb => by
    have hj := (List.getElem?_eq_some_iff.1 hz).1
    have e : l[j] = z := (List.getElem?_eq_some_iff.1 hz).2
    obtain ⟨i0, i1, i2⟩ := insCells_get l j hj
    rw [e] at i0 i1 i2
    exact ⟨(Below.chg hb).cell (hcells _ _ i0) (fun x => x), (Below.chg hb).cell (hcells _ _ i1) (fun x => x), (Below.chg hb).cell (hcells _ _ i2) (fun x => x)⟩
  have HCELL := Lib.hid hcell
  have hnc : n ≤ vc := by
    rcases h.row.2 with ⟨e, _⟩ | ⟨_, _, _, e, _, _, h, _⟩
    · cases e
    · injection e with _ _ e; omega
  have HBX : Hid (∀ wx, Below w.heap.size w wx → wx.cell? ⟨F, 0, none⟩ = some (.slice (some ⟨g, 0, none⟩) n vc)) := Lib.hid (fun wx hb => by rw [hn]; exact cell_of_block ((Below.chg hb).heap h.box (fun x => x)) 0)
  have HNL := Lib.hid hn
  have HX := Lib.hid hx
  have HY := Lib.hid hy
  have HL := Lib.hid (And.intro hl hwl)
  have hal' : at_ + 1 < n := by omega
  have hnm : n ≤ 1048576 := by omega
  obtain ⟨xo, xa, xn⟩ := x
  obtain ⟨yo, ya, yn⟩ := y
  simp only at hres
  have HRES := Lib.hid hres
  have HFR := Lib.hid hfr
  have HWY := Lib.hid hwy
  have SCX : Hid (∀ w', Below w.heap.size w w' → w'.cell? ⟨F, 0, none⟩ = some (.slice (some ⟨g, 0, none⟩) n vc) ∧ w'.cell? ⟨g, at_ * 3 + 2, none⟩ = some (.int .i64 xn) ∧ w'.cell? ⟨g, (at_ + 1) * 3, none⟩ = some (.int .i64 yo) ∧ w'.cell? ⟨g, (at_ + 1) * 3 + 1, none⟩ = some (.int .i64 ya) ∧ w'.cell? ⟨g, (at_ + 1) * 3 + 2, none⟩ = some (.int .i64 yn)) := Lib.hid (fun wx hb =>
    ⟨HBX.out wx hb, (hcell _ _ hx wx hb).2.2, (hcell _ _ hy wx hb).1, (hcell _ _ hy wx hb).2.1, (hcell _ _ hy wx hb).2.2⟩)
  clear h hx hy hal hl hwl hfr hn hres hcells hcell e2 hwy hgl
  obtain ⟨P, hP⟩ : ∃ P, P = w.heap.size := ⟨_, rfl⟩
  have HP := Lib.hid hP
  clear hP
  go_enter Tryd.func74, Tryd.ntmps74
  go_upto_region 1 with fail
  go_cut [5, 6] from 12 to 27 (fun v5 v6 wx => v5 = .int .i64 xn ∧ v6 = .pointer (some ⟨P, 0, none⟩) ∧ Hid (wx.heap[P]? = some (.cells #[.int .i64 yo, .int .i64 ya, .int .i64 yn] 44 (0, 0)) ∧ Below w.heap.size w wx))
  case first =>
    obtain ⟨wd, hwd⟩ : ∃ wd, wd = w.drew := ⟨_, rfl⟩
    have hb : Below w.heap.size w wd := by rw [hwd]; exact (Below.refl _ _).drew
    have hpd : wd.heap.size = P := by rw [hwd, HP.out]; rfl
    have hS := SCX.out wd hb
    have hwr : IntKind.i64.wrap ((at_ : Int) + 1) = ((at_ + 1 : Nat) : Int) := by rw [IntKind.wrap_i64]; omega
    have hat : at_ < n := by omega
    have hq0 : (0 : Int) ≤ (at_ : Int) + 1 := by omega
    have hq1 : (at_ : Int) + 1 < (n : Int) := by omega
    refine wp_region_ord (S := fun w' => w'.cell? ⟨F, 0, none⟩ = some (.slice (some ⟨g, 0, none⟩) n vc) ∧ w'.cell? ⟨g, at_ * 3 + 2, none⟩ = some (.int .i64 xn) ∧ w'.cell? ⟨g, (at_ + 1) * 3, none⟩ = some (.int .i64 yo) ∧ w'.cell? ⟨g, (at_ + 1) * 3 + 1, none⟩ = some (.int .i64 ya) ∧ w'.cell? ⟨g, (at_ + 1) * 3 + 2, none⟩ = some (.int .i64 yn)) (N := fun i => true) (by kernel_rfl) [(0, true), (1, true), (2, true), (3, true), (4, true), (5, true), (6, true), (7, true), (8, true), (9, true), (10, true), (11, true), (12, true), (13, true), (14, true), (15, true), (16, false), (17, true), (18, false)] (by kernel_rfl) ?_
    rw [← hwd]
    clear hwd
    iterate 16 (refine ord_look rfl hS rfl (by intro w hS; obtain ⟨p0, p1, p2, p3, p4⟩ := hS; go_simp; with_reducible rfl) (fun c a w h => h) ?_; simp only [Act.put, List.setIfInBounds_toArray, List.set_cons_succ, List.set_cons_zero])
    refine ord_act rfl rfl (fun K hK => ?_)
    go_simp
    obtain ⟨x1, hx1⟩ : ∃ x1, x1 = wd.alloc (.cells #[.int .i64 0, .int .i64 0, .int .i64 0] 44) := ⟨_, rfl⟩
    rw [← hx1]
    try rw [hpd]
    have k1 : Chg (fun _ => False) wd x1 := by rw [hx1]; exact (Chg.refl _ _).alloc _
    have hP : x1.heap[P]? = some (.cells #[.int .i64 0, .int .i64 0, .int .i64 0] 44 (0, 0)) := by rw [hx1]; exact heap_new' hpd
    replace hb := bel_trans hb k1.to_below
    replace hS := SCX.out x1 hb
    refine hK _ _ ⟨fun _ => hS, ?_⟩
    clear hK K hx1 hpd k1
    try simp only [Act.put, List.setIfInBounds_toArray, List.set_cons_succ, List.set_cons_zero]
    (refine ord_look rfl hS rfl (by intro w hS; obtain ⟨p0, p1, p2, p3, p4⟩ := hS; go_simp; with_reducible rfl) (fun c a w h => h) ?_; simp only [Act.put, List.setIfInBounds_toArray, List.set_cons_succ, List.set_cons_zero])
    refine ord_act rfl rfl (fun K hK => ?_)
    have y0 := cell_of_block hP 0
    have y1 := cell_of_block hP 1
    have y2 := cell_of_block hP 2
    have z0 := frozen_of_block hP 0
    have z1 := frozen_of_block hP 1
    have z2 := frozen_of_block hP 2
    simp at y0 y1 y2
    have hE := heap_set (heap_set (heap_set hP 0 (.int .i64 yo)) 1 (.int .i64 ya)) 2 (.int .i64 yn)
    have hHE := Lib.hid hE
    clear hE
    go_simp
    obtain ⟨x2, hx2⟩ : ∃ x2, x2 = ((x1.setCell ⟨P, 0, none⟩ (.int .i64 yo)).setCell ⟨P, 1, none⟩ (.int .i64 ya)).setCell ⟨P, 2, none⟩ (.int .i64 yn) := ⟨_, rfl⟩
    have k2 : Chg (fun k => k = P) x1 x2 := by rw [hx2]; exact (((Chg.refl (fun k => k = P) x1).setCell (p := ⟨P, 0, none⟩) (fun _ => rfl) _).setCell (p := ⟨P, 1, none⟩) (fun _ => rfl) _).setCell (p := ⟨P, 2, none⟩) (fun _ => rfl) _
    rw [← hx2]
    have hbe : Below w.heap.size w x2 := hb.trans (k2.below (B := w.heap.size) (fun k e => by have := HP.out; omega) hb.size)
    have hSe := SCX.out x2 hbe
    refine hK _ _ ⟨fun _ => hSe, ?_⟩
    clear hK K
    refine ord_end ?_
    have hxP : x2.heap[P]? = some (.cells #[.int .i64 yo, .int .i64 ya, .int .i64 yn] 44 (0, 0)) := by rw [hx2]; exact hHE.out
    have HRS := Lib.hid (And.intro hxP hbe)
    clear hx2 hxP hSe hS hbe hb
    go_wp2_with fail
    go_meet
    case rel => exact ⟨rfl, rfl, HRS⟩
  case rest =>
    obtain ⟨rfl, rfl, HQ0⟩ := hcut
    obtain ⟨wq, hwq⟩ : ∃ wq : World, wq = wc := ⟨_, rfl⟩
    rw [← hwq] at HQ0 ⊢
    clear hwq
    have HQ := HQ0
    clear HQ0
    have c0 := cell_of_block HQ.out.1 0
    have c1 := cell_of_block HQ.out.1 1
    have c2 := cell_of_block HQ.out.1 2
    simp at c0 c1 c2
    have hln : l.length = n := HNL.out.symm
    rw [hln] at CREP
    clear hln
    by_cases h4 : yo = 4
    · subst h4
      obtain ⟨r, hr⟩ : ∃ r, doV (4 + 2) xn 0 = r := ⟨_, rfl⟩
      have CD := Lib.hid (fun w => do_any 4 xn 0 (by decide) (by decide) w)
      have hrs : some (replv l at_ 2 [pushR (doV (4 + 2) xn 0).1]) = res := HRES.out
      rw [hr] at hrs CD
      subst hrs
      clear hr HRES
      go_wp2_with fail
      refine (CD.out _).mono ?_; rintro e w1 ⟨rfl, hw1⟩
      rw [hw1]
      clear hw1
      go_wp2_with fail
      refine (push_any _ _).mono ?_; rintro e w2 ⟨rfl, hb2⟩
      obtain ⟨W, hW⟩ : ∃ W, W = w2.alloc (.cells #[.int .i64 1, .int .i64 0, .int .i64 r.1] 44) := ⟨_, rfl⟩
      obtain ⟨B, hB⟩ : ∃ B, B = w2.heap.size := ⟨_, rfl⟩
      have hWB : W.heap[B]? = some (.cells #[.int .i64 1, .int .i64 0, .int .i64 r.1] 44 (0, 0)) := by rw [hW]; exact heap_new' hB.symm
      have hbW : Below w.heap.size w W := by rw [hW]; exact (bel_trans HQ.out.2 hb2).alloc (bel_trans HQ.out.2 hb2).size _
      have CR := CREP.out W 2 [pushR r.1] (.slice (some ⟨B, 0, none⟩) 1 1) hbW (Nat.le_refl _) (by simp) (by decide) (by omega) (src_one hWB) (fun x hx => by rw [List.mem_singleton.1 hx]; exact ⟨(by show In64 0; unfold In64; omega)⟩)
      rw [show ((2 : Nat) : Int) = 2 from rfl] at CR
      have HCR := Lib.hid CR
      have HW := Lib.hid (And.intro hW hB)
      clear CR hWB hbW hb2 hW hB
      go_wp2_with fail
      rw [← HW.out.1, ← HW.out.2]
      refine HCR.out.mono ?_; rintro e w4 ⟨rfl, hR⟩
      have HRL := Lib.hid hR
      clear hR
      go_wp2_with fail
      go_ret
      exact HRL.out
    · by_cases h5 : yo = 5
      · subst h5
        obtain ⟨r, hr⟩ : ∃ r, doV (5 + 2) xn 0 = r := ⟨_, rfl⟩
        have CD := Lib.hid (fun w => do_any 5 xn 0 (by decide) (by decide) w)
        have hrs : some (replv l at_ 2 [pushR (doV (5 + 2) xn 0).1]) = res := HRES.out
        rw [hr] at hrs CD
        subst hrs
        clear hr HRES
        go_wp2_with fail
        refine (CD.out _).mono ?_; rintro e w1 ⟨rfl, hw1⟩
        rw [hw1]
        clear hw1
        go_wp2_with fail
        refine (push_any _ _).mono ?_; rintro e w2 ⟨rfl, hb2⟩
        obtain ⟨W, hW⟩ : ∃ W, W = w2.alloc (.cells #[.int .i64 1, .int .i64 0, .int .i64 r.1] 44) := ⟨_, rfl⟩
        obtain ⟨B, hB⟩ : ∃ B, B = w2.heap.size := ⟨_, rfl⟩
        have hWB : W.heap[B]? = some (.cells #[.int .i64 1, .int .i64 0, .int .i64 r.1] 44 (0, 0)) := by rw [hW]; exact heap_new' hB.symm
        have hbW : Below w.heap.size w W := by rw [hW]; exact (bel_trans HQ.out.2 hb2).alloc (bel_trans HQ.out.2 hb2).size _
        have CR := CREP.out W 2 [pushR r.1] (.slice (some ⟨B, 0, none⟩) 1 1) hbW (Nat.le_refl _) (by simp) (by decide) (by omega) (src_one hWB) (fun x hx => by rw [List.mem_singleton.1 hx]; exact ⟨(by show In64 0; unfold In64; omega)⟩)
        rw [show ((2 : Nat) : Int) = 2 from rfl] at CR
        have HCR := Lib.hid CR
        have HW := Lib.hid (And.intro hW hB)
        clear CR hWB hbW hb2 hW hB
        go_wp2_with fail
        rw [← HW.out.1, ← HW.out.2]
        refine HCR.out.mono ?_; rintro e w4 ⟨rfl, hR⟩
        have HRL := Lib.hid hR
        clear hR
        go_wp2_with fail
        go_ret
        exact HRL.out
      · by_cases h16 : yo = 16
        · subst h16
          by_cases hx0 : xn = 0
          · subst hx0
            have hrs : some (replv l at_ 2 [⟨15, ya, 0⟩]) = res := HRES.out
            subst hrs
            clear HRES
            obtain ⟨W, hW⟩ : ∃ W, W = wq.alloc (.cells #[.int .i64 15, .int .i64 ya, .int .i64 0] 44) := ⟨_, rfl⟩
            obtain ⟨B, hB⟩ : ∃ B, B = wq.heap.size := ⟨_, rfl⟩
            have hWB : W.heap[B]? = some (.cells #[.int .i64 15, .int .i64 ya, .int .i64 0] 44 (0, 0)) := by rw [hW]; exact heap_new' hB.symm
            have hbW : Below w.heap.size w W := by rw [hW]; exact HQ.out.2.alloc HQ.out.2.size _
            have CR := CREP.out W 2 [⟨15, ya, 0⟩] (.slice (some ⟨B, 0, none⟩) 1 1) hbW (Nat.le_refl _) (by simp) (by decide) (by omega) (src_one hWB) (fun x hx => by rw [List.mem_singleton.1 hx]; exact ⟨HWY.out.a⟩)
            rw [show ((2 : Nat) : Int) = 2 from rfl] at CR
            have HCR := Lib.hid CR
            have HW := Lib.hid (And.intro hW hB)
            clear CR hWB hbW hW hB
            go_wp2_with fail
            rw [← HW.out.1, ← HW.out.2]
            refine HCR.out.mono ?_; rintro e w4 ⟨rfl, hR⟩
            have HRL := Lib.hid hR
            clear hR
            go_wp2_with fail
            go_ret
            exact HRL.out
          · have hrs : some (replv l at_ 2 []) = res := by
              have h := HRES.out
              rw [if_neg (by decide), if_neg (fun h => hx0 h.2), if_pos rfl] at h
              exact h
            subst hrs
            clear HRES
            have CR := CREP.out wq 2 [] (.slice none 0 0) HQ.out.2 (by decide) (by decide) (by decide) (by omega) (src_none wq) (fun x hx => by cases hx)
            rw [show ((2 : Nat) : Int) = 2 from rfl] at CR
            have HCR := Lib.hid CR
            clear CR
            go_wp2_with fail
            refine HCR.out.mono ?_; rintro e w4 ⟨rfl, hR⟩
            have HRL := Lib.hid hR
            clear hR
            go_wp2_with fail
            go_ret
            exact HRL.out
        · by_cases h1 : yo = 1
          · subst h1
            have hres := HRES.out
            rw [if_neg (by decide), if_neg (fun h => by exact absurd h.1 (by decide)), if_neg (by decide)] at hres
            have HRES2 := Lib.hid hres
            clear hres HRES
            go_wp2_with fail
            refine (CFR.out _ HQ.out.2).mono ?_; rintro e w1 ⟨rfl, hb1⟩
            have HB1 := Lib.hid (bel_trans HQ.out.2 hb1)
            have HP1 := Lib.hid ((Below.chg hb1).heap HQ.out.1 (fun x => x))
            clear c0 c1 c2 hb1 HQ
            cases fr with
            | false =>
              have hrs : none = res := by
                have h := HRES2.out
                rwa [if_pos (.inr rfl)] at h
              subst hrs
              go_wp2_with fail
              go_ret
              exact HN.out _ HB1.out
            | true =>
              have hres := HRES2.out
              rw [if_neg (by simp)] at hres
              have hlt : at_ + 2 < l.length := by
                have h := HFR.out
                unfold freev at h
                simp only [Bool.and_eq_true, decide_eq_true_eq] at h
                omega
              obtain ⟨z, hz⟩ : ∃ z, l[at_ + 2]? = some z := ⟨_, List.getElem?_eq_getElem hlt⟩
              rw [hz] at hres
              simp only at hres
              have HRES3 := Lib.hid hres
              obtain ⟨b0, b1, b2⟩ := HCELL.out _ z hz w1 HB1.out
              have hlt' : at_ + 2 < n := by have := HNL.out; omega
              have d0 := HBX.out w1 HB1.out
              have HQ : Hid (w1.heap[P]? = some (.cells #[.int .i64 1, .int .i64 ya, .int .i64 yn] 44 (0, 0)) ∧ Below w.heap.size w w1) := Lib.hid ⟨HP1.out, HB1.out⟩
              have c2 := cell_of_block HP1.out 2
              simp at c2
              obtain ⟨zo, za, zn⟩ := z
              simp only at b0 b1 b2 HRES3
              clear hres HRES2 hz hlt
              by_cases hz6 : zo < 6
              · have hrs : none = res := by have h := HRES3.out; rwa [if_pos (.inl hz6)] at h
                subst hrs
                go_wp2_with fail
                go_ret
                exact HN.out _ HQ.out.2
              · by_cases hz14 : 14 < zo
                · have hrs : none = res := by have h := HRES3.out; rwa [if_pos (.inr hz14)] at h
                  subst hrs
                  go_wp2_with fail
                  go_ret
                  exact HN.out _ HQ.out.2
                · have hres := HRES3.out
                  rw [if_neg (by omega)] at hres
                  have CD := Lib.hid (fun w => do_any zo xn yn (by omega) (by omega) w)
                  obtain ⟨r, hr⟩ : ∃ r, doV (zo + 2) xn yn = r := ⟨_, rfl⟩
                  rw [hr] at hres CD
                  have HRES4 := Lib.hid hres
                  clear hres hr HRES3
                  go_wp2_with fail
                  refine (CD.out _).mono ?_; rintro e w2 ⟨rfl, hw1⟩
                  rw [hw1]
                  clear hw1 c2 b0 b1 b2 d0
                  obtain ⟨rn, rb⟩ := r
                  cases rb with
                  | false =>
                    have hrs : none = res := by have h := HRES4.out; rwa [if_neg (by simp)] at h
                    subst hrs
                    go_wp2_with fail
                    go_ret
                    exact HN.out _ HQ.out.2
                  | true =>
                    have hrs : some (replv l at_ 3 [pushR rn]) = res := by have h := HRES4.out; rwa [if_pos rfl] at h
                    subst hrs
                    go_wp2_with fail
                    refine (push_any _ _).mono ?_; rintro e w2 ⟨rfl, hb2⟩
                    obtain ⟨W, hW⟩ : ∃ W, W = w2.alloc (.cells #[.int .i64 1, .int .i64 0, .int .i64 rn] 44) := ⟨_, rfl⟩
                    obtain ⟨B, hB⟩ : ∃ B, B = w2.heap.size := ⟨_, rfl⟩
                    have hWB : W.heap[B]? = some (.cells #[.int .i64 1, .int .i64 0, .int .i64 rn] 44 (0, 0)) := by rw [hW]; exact heap_new' hB.symm
                    have hbW : Below w.heap.size w W := by rw [hW]; exact (bel_trans HQ.out.2 hb2).alloc (bel_trans HQ.out.2 hb2).size _
                    have CR := CREP.out W 3 [pushR rn] (.slice (some ⟨B, 0, none⟩) 1 1) hbW (Nat.le_refl _) (by simp) (by decide) (by omega) (src_one hWB) (fun x hx => by rw [List.mem_singleton.1 hx]; exact ⟨(by show In64 0; unfold In64; omega)⟩)
                    rw [show ((3 : Nat) : Int) = 3 from rfl] at CR
                    have HCR := Lib.hid CR
                    have HW := Lib.hid (And.intro hW hB)
                    clear CR hWB hbW hb2 hW hB
                    go_wp2_with fail
                    rw [← HW.out.1, ← HW.out.2]
                    refine HCR.out.mono ?_; rintro e w4 ⟨rfl, hR⟩
                    have HRL := Lib.hid hR
                    clear hR
                    go_wp2_with fail
                    go_ret
                    exact HRL.out
          · have hrs : none = res := by
              have h := HRES.out
              rwa [if_neg (by omega), if_neg (by omega), if_neg h16, if_pos (.inl h1)] at h
            subst hrs
            have e4 : (yo == 4) = false := beq_eq_false_iff_ne.2 h4
            have e5 : (yo == 5) = false := beq_eq_false_iff_ne.2 h5
            have e16 : (yo == 16) = false := beq_eq_false_iff_ne.2 h16
            have e1 : (yo == 1) = false := beq_eq_false_iff_ne.2 h1
            go_wp2_with fail
            go_ret
            exact HN.out _ HQ.out.2
end Go.Proofs.YtgiegkacilfofabDoor
