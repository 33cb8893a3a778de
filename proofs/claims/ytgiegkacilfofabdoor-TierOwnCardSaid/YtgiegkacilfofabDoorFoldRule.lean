/- fold: rule. -/
import Derived.Test.YtgiegkacilfofabDoorFoldBeh
namespace Go.Proofs.YtgiegkacilfofabDoor
set_option linter.unusedVariables false
set_option linter.unusedSimpArgs false
open Go.RowKit

def ruleV (l : List InsR) (at_ : Nat) : Option (List InsR) :=
  match l[at_]? with
  | none => none
  | some x => if x.op = 15 ∧ x.a = (at_ : Int) + 1 then some (replv l at_ 1 []) else if x.op = 1 ∧ freev l ((at_ : Int) + 1) = true then (match l[at_ + 1]? with | none => none | some y => behindV l at_ x y) else none

set_option maxHeartbeats 4000000 in
set_option maxRecDepth 100000 in
theorem rule_any {w : World} {F : Nat} {V : Value} {l : List InsR} (at_ : Nat) (h : FoldIs w F V l) (hat : at_ < l.length) (hl : l.length ≤ 1048576) (hwl : ∀ x ∈ l, WfI x) :
    Calls Tryd.prog 64 #[.pointer (some ⟨F, 0, none⟩), .int .i64 at_] w fun e w' => Ruled w F V l (ruleV l at_) e w' := by
  obtain ⟨x, hx⟩ : ∃ x, l[at_]? = some x := ⟨_, List.getElem?_eq_getElem hat⟩
  have HFI := Lib.hid h
  have CREP : Hid (∀ (wx : World), Below w.heap.size w wx →
      Calls Tryd.prog 72 #[.pointer (some ⟨F, 0, none⟩), .int .i64 at_, .int .i64 1, .slice none 0 0] wx fun e w' => e = .returned (.tuple #[]) ∧ Ruled w F V l (some (replv l at_ 1 [])) (.returned (.bool true)) w') := Lib.hid (fun wx hb =>
    (replace_any at_ 1 [] (.slice none 0 0) (h.keep hb) (by decide) (by decide) (by decide) (by omega) (src_none wx) (by omega) hwl (fun x hx => by cases hx)).mono fun e w' ⟨he, V', g1, g2, g3⟩ => ⟨he, Ruled.some hb g1 g2 g3⟩)
  have CFR : Hid (∀ wx, Below w.heap.size w wx → Calls Tryd.prog 73 #[.pointer (some ⟨F, 0, none⟩), .int .i64 ((at_ : Int) + 1)] wx fun e w' => e = .returned (.bool (freev l ((at_ : Int) + 1))) ∧ Below wx.heap.size wx w') := Lib.hid (fun wx hb => free_any ((at_ : Int) + 1) (h.keep hb) (by omega))
  have CBE : Hid (∀ (wx : World) (y : InsR), Below w.heap.size w wx → l[at_ + 1]? = some y → Calls Tryd.prog 74 #[.pointer (some ⟨F, 0, none⟩), .int .i64 at_] wx fun e w' => Ruled w F V l (behindV l at_ x y) e w') := Lib.hid (fun wx y hb hy =>
    (behind_any at_ x y (h.keep hb) hx hy hl hwl).mono fun e w' ⟨he, V', g1, g2, g3⟩ => ⟨he, V', g1, g2, (Below.chg hb).trans g3 (fun _ _ x => x.elim) (fun _ _ x => x)⟩)
  have HN : Hid (∀ wx, Below w.heap.size w wx → Ruled w F V l none (.returned (.bool false)) wx) := Lib.hid (fun wx hb => Ruled.none h hb)
  obtain ⟨fr, hfr⟩ : ∃ fr, freev l ((at_ : Int) + 1) = fr := ⟨_, rfl⟩
  obtain ⟨n, hn⟩ : ∃ n, n = l.length := ⟨_, rfl⟩
  obtain ⟨_, VA, vc, rfl⟩ := ownsRow_slice h.row
  obtain ⟨res, hres⟩ : ∃ res, ruleV l at_ = res := ⟨_, rfl⟩
  rw [hres]
  unfold ruleV at hres
  rw [hx] at hres
  simp only at hres
  rw [hfr] at CFR hres
  obtain ⟨g, cap, e, hgl, hcells⟩ := ownsRow_at h.row (by omega)
  injection e with e1 e2 e3
  subst e1 e3
  have hxe : l[at_] = x := (List.getElem?_eq_some_iff.1 hx).2
  obtain ⟨i0, i1, i2⟩ := insCells_get l at_ hat
  rw [hxe] at i0 i1 i2
  have c0 := hcells _ _ i0
  have c1 := hcells _ _ i1
  have c2 := hcells _ _ i2
  have d0 := cell_of_block h.box 0
  simp at d0
  rw [← hn] at d0
  have hatn : at_ < n := by omega
  have hnm : n ≤ 1048576 := by omega
  have hnc : n ≤ vc := by
    rcases h.row.2 with ⟨e, _⟩ | ⟨_, _, _, e, _, _, h, _⟩
    · cases e
    · injection e with _ _ e; omega
  have HNL := Lib.hid hn
  obtain ⟨xo, xa, xn⟩ := x
  simp only at hres c0 c1 c2
  have HRES := Lib.hid hres
  have HFR := Lib.hid hfr
  obtain ⟨P, hP⟩ : ∃ P, P = w.heap.size := ⟨_, rfl⟩
  obtain ⟨wq, hwq⟩ : ∃ wq, wq = w.alloc (.cells #[.int .i64 xo, .int .i64 xa, .int .i64 xn] 44) := ⟨_, rfl⟩
  have HQ : Hid (wq.heap[P]? = some (.cells #[.int .i64 xo, .int .i64 xa, .int .i64 xn] 44 (0, 0)) ∧ Below w.heap.size w wq) := Lib.hid ⟨by rw [hwq]; exact heap_new' hP.symm, by rw [hwq]; exact (Below.refl _ _).alloc (Nat.le_refl _) _⟩
  have HW := Lib.hid (And.intro hP hwq)
  clear h hx hat hl hwl hfr hn hres hcells e2 hgl hxe i0 i1 i2 hP hwq
  go_enter Tryd.func64, Tryd.ntmps64
  go_upto_region 2 with fail
  rw [← HW.out.1, ← HW.out.2]
  clear c0 c1 c2 d0
  have c0 := cell_of_block HQ.out.1 0
  have c1 := cell_of_block HQ.out.1 1
  simp at c0 c1
  by_cases h15 : xo = 15
  · subst h15
    by_cases ha : xa = (at_ : Int) + 1
    · have hrs : some (replv l at_ 1 []) = res := by have h := HRES.out; rwa [if_pos ⟨rfl, ha⟩] at h
      subst hrs
      subst ha
      go_wp2_with fail
      refine (CREP.out _ HQ.out.2).mono ?_; rintro e w4 ⟨rfl, hR⟩
      have HRL := Lib.hid hR
      clear hR
      go_wp2_with fail
      go_ret
      exact HRL.out
    · have hrs : none = res := by
        have h := HRES.out
        rwa [if_neg (fun h => ha h.2), if_neg (fun h => absurd h.1 (by decide))] at h
      subst hrs
      have ha2 : (xa == (at_ : Int) + 1) = false := beq_eq_false_iff_ne.2 ha
      go_wp2_with fail
      go_ret
      exact HN.out _ HQ.out.2
  · have e15 : (xo == 15) = false := beq_eq_false_iff_ne.2 h15
    by_cases h1 : xo = 1
    · subst h1
      go_wp2_with fail
      refine (CFR.out _ HQ.out.2).mono ?_; rintro e w1 ⟨rfl, hb1⟩
      have HB1 := Lib.hid (bel_trans HQ.out.2 hb1)
      clear hb1 c0 c1
      cases fr with
      | false =>
        have hrs : none = res := by have h := HRES.out; rwa [if_neg (fun h => h15 h.1), if_neg (fun h => by cases h.2)] at h
        subst hrs
        go_wp2_with fail
        go_ret
        exact HN.out _ HB1.out
      | true =>
        have hlt : at_ + 1 < l.length := by
          have h := HFR.out
          unfold freev at h
          simp only [Bool.and_eq_true, decide_eq_true_eq] at h
          omega
        obtain ⟨y, hy⟩ : ∃ y, l[at_ + 1]? = some y := ⟨_, List.getElem?_eq_getElem hlt⟩
        have hrs : behindV l at_ ⟨1, xa, xn⟩ y = res := by have h := HRES.out; rwa [if_neg (fun h => h15 h.1), if_pos (by simp), hy] at h
        have CB := Lib.hid (CBE.out w1 y HB1.out hy)
        subst hrs
        clear hy hlt
        obtain ⟨b, hb⟩ : ∃ b, (behindV l at_ ⟨1, xa, xn⟩ y).isSome = b := ⟨_, rfl⟩
        have CB2 := Lib.hid (CB.out.mono (R' := fun e w' => e = .returned (.bool b) ∧ ∃ V', FoldIs w' F V' ((behindV l at_ ⟨1, xa, xn⟩ y).getD l) ∧ V'.ownBlock = (Value.slice (some ⟨g, 0, none⟩) l.length vc).ownBlock ∧ Chg (fun k => k = F ∨ (Value.slice (some ⟨g, 0, none⟩) l.length vc).ownBlock = some k) w w') (fun e w' h => ⟨by rw [← hb]; exact h.1, h.2⟩))
        have HBB := Lib.hid hb
        clear hb CB HRES
        go_wp2_with fail
        refine CB2.out.mono ?_; rintro e w4 ⟨rfl, hR⟩
        have HRL := Lib.hid hR
        clear hR
        go_wp2_with fail
        go_ret
        exact ⟨by rw [HBB.out] <;> rfl, HRL.out⟩
    · have hrs : none = res := by
        have h := HRES.out
        rwa [if_neg (fun h => h15 h.1), if_neg (fun h => h1 h.1)] at h
      subst hrs
      have e1 : (xo == 1) = false := beq_eq_false_iff_ne.2 h1
      go_wp2_with fail
      go_ret
      exact HN.out _ HQ.out.2
end Go.Proofs.YtgiegkacilfofabDoor
