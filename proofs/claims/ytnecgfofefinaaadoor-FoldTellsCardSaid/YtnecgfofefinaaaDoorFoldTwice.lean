/- FoldTwice. -/
import Derived.Test.YtnecgfofefinaaaDoorFoldRef
namespace Go.Proofs.YtnecgfofefinaaaDoor
set_option linter.unusedVariables false
set_option linter.unusedSimpArgs false
open Go.RowKit

theorem foldv_fix : ∀ (n : Nat) (l : List InsR), l.length = n → firstRule (foldv l) = none := by
  intro n
  induction n using Nat.strongRecOn with
  | _ n ih =>
    intro l hl
    cases e : firstRule l with
    | none => rw [foldv_none e]; exact e
    | some l' => rw [foldv_some e]; exact ih l'.length (by have := firstRule_less e; omega) l' rfl
theorem foldv_twice (l : List InsR) : foldv (foldv l) = foldv l := foldv_none (foldv_fix _ l rfl)
theorem foldv_le : ∀ (n : Nat) (l : List InsR), l.length = n → (foldv l).length ≤ l.length := by
  intro n
  induction n using Nat.strongRecOn with
  | _ n ih =>
    intro l hl
    cases e : firstRule l with
    | none => rw [foldv_none e]; exact Nat.le_refl _
    | some l' =>
      rw [foldv_some e]
      have := firstRule_less e
      have := ih l'.length (by omega) l' rfl
      omega
theorem foldv_wf : ∀ (n : Nat) (l : List InsR), l.length = n → (∀ x ∈ l, WfI x) → ∀ x ∈ foldv l, WfI x := by
  intro n
  induction n using Nat.strongRecOn with
  | _ n ih =>
    intro l hl hw
    cases e : firstRule l with
    | none => rw [foldv_none e]; exact hw
    | some l' =>
      rw [foldv_some e]
      obtain ⟨i, _, hr, _⟩ := firstRule_some e
      exact ih l'.length (by have := firstRule_less e; omega) l' rfl (ruleV_wf hr hw)

/-- the first so many of a row that came in -/
theorem BodyAt.take {w : World} {A : Option Addr} {c : Nat} {l : List InsR} (h : BodyAt w A c l) (m : Nat) (hm : m ≤ l.length) : Src w (.slice A m c) (l.take m).length (insCells (l.take m)) := by
  have hl : (l.take m).length = m := by rw [List.length_take]; omega
  rw [hl]
  rcases h.src with ⟨_, h0, _⟩ | ⟨b, off, cap, e, hb, h1, h2, h3⟩
  · have : m = 0 := by omega
    subst this
    exact .inl ⟨⟨A, c, rfl⟩, rfl, rfl⟩
  · injection e with e1 e2 e3
    subst e1 e3
    refine .inr ⟨b, off, c, rfl, hb, by omega, by omega, fun j u hu => h3 j u ?_⟩
    have : insCells l = insCells (l.take m) ++ insCells (l.drop m) := by rw [← insCells_append, List.take_append_drop]
    rw [this, List.getElem?_append_left (List.getElem?_eq_some_iff.1 hu).1]
    exact hu
theorem BodyAt.keep {w w' : World} {A : Option Addr} {c : Nat} {l : List InsR} (h : BodyAt w A c l) (hb : Below w.heap.size w w') : BodyAt w' A c l := ⟨h.src.kept (Below.chg hb) (.inr fun _ _ x => x), h.full, h.fits, h.bytes⟩

set_option maxHeartbeats 4000000 in
set_option maxRecDepth 100000 in
theorem foldTwice_walk (W : World) (A : Option Addr) (c : Nat) (l : List InsR) (hL : SortsIs W) (hB : BodyAt W A c l) :
    Calls Tryd.prog 4 #[.slice A l.length c] W fun e w' => e = .returned (.bool true) ∧ Below W.heap.size W w' := by
  obtain ⟨n, hn⟩ : ∃ n, n = l.length := ⟨_, rfl⟩
  rw [← hn]
  have hnc : n ≤ c := by have := hB.fits; omega
  have hnb : n * 24 ≤ 140737488351232 := by have := hB.bytes; omega
  have HN := Lib.hid hn
  have HB := Lib.hid hB
  have CS := Lib.hid (shown_any hL)
  clear hn hB hL
  obtain ⟨i0, hi, hz0, hz1, hz2⟩ := info_parts infoIns
  obtain ⟨m, hm⟩ : ∃ m : Nat, m = if n < 80 then n else 80 := ⟨_, rfl⟩
  have hmi : min (n : Int) 80 = (m : Int) := by rw [hm]; split <;> omega
  have hmn : m ≤ n := by rw [hm]; split <;> omega
  have hm80 : m ≤ 80 := by rw [hm]; split <;> omega
  clear hm
  obtain ⟨L, hLd⟩ : ∃ L, L = l.take m := ⟨_, rfl⟩
  have HLL : Hid (L.length = m) := Lib.hid (by rw [hLd, List.length_take]; have := HN.out; omega)
  have HWF : Hid (∀ x ∈ L, WfI x) := Lib.hid (fun x hx => (HB.out.full x (by rw [hLd] at hx; exact List.mem_of_mem_take hx)).wf)
  have HLD := Lib.hid hLd
  clear hLd
  go_enter Tryd.func4, Tryd.ntmps4
  go_wp2_with fail
  refine CS.out.mono ?_; rintro e w1 ⟨rfl, hb1⟩
  have HB1 := Lib.hid hb1
  clear hb1 CS
  have HROW : Hid ((w1.alloc (.cells #[] 32)).ownsRow 0 32 3 (.slice (some ⟨w1.heap.size, 0, none⟩) 0 0) 0 []) := Lib.hid ⟨rfl, .inr ⟨w1.heap.size, 0, #[], rfl, Nat.zero_le _, heap_new _ _, Nat.le_refl _, by simp [maxLen], rfl, rfl⟩⟩
  have HSRC : Hid (Src (w1.alloc (.cells #[] 32)) (.slice A m c) m (insCells L)) := Lib.hid (by
    have h := (HB.out.keep (HB1.out.alloc HB1.out.size (.cells #[] 32))).take m (by have := HN.out; omega)
    rw [← HLD.out, HLL.out] at h
    exact h)
  go_wp2_with (at_builtin; refine wpList_app rfl _ _ _ rfl 0 32 i0 _ 3 24 Tryd.underlying22 hi hz0 hz1 hz2 rfl (by omega) (.slice (some ⟨w1.heap.size, 0, none⟩) 0 0) 0 [] rfl HROW.out (.slice A m c) m (insCells L) rfl HSRC.out (by rw [insCells_length, HLL.out]) (insCells_one _) (by unfold maxLen; omega) (by omega) (by omega) ?_; intro v2 w2 hown2 hgrow2 hat2; rw [Nat.zero_add, List.nil_append] at hown2; obtain ⟨_, A2, c2, rfl⟩ := ownsRow_slice hown2)
  have HW2 : Hid (Below W.heap.size W w2) := Lib.hid ((HB1.out.alloc HB1.out.size _).trans ((Chg.of_grown hgrow2).below (B := W.heap.size) (fun k hk => by
    have hk : some w1.heap.size = some k := hk
    injection hk with hk
    have := HB1.out.size; omega) (HB1.out.alloc HB1.out.size (.cells #[] 32)).size))
  have HO2 := Lib.hid hown2
  clear hown2 hgrow2 hat2 HROW HSRC
  have HP : Hid ((foldv L).length ≤ m) := Lib.hid (by have := foldv_le _ L rfl; rw [HLL.out] at this; exact this)
  have CR : Hid (Calls Tryd.prog 12 #[.slice A2 m c2] w2 fun e w' => ∃ A3 c3, e = .returned (.slice A3 m c3) ∧ w'.ownsRow 0 36 3 (.slice A3 m c3) m (insCells L) ∧ Below w2.heap.size w2 w') := Lib.hid (by
    refine (ref_any (v := .slice A2 m c2) (l := L) (by rw [HLL.out]; exact Src.of_row HO2.out) (by rw [HLL.out]; omega)).mono ?_
    rintro e w' ⟨v', rfl, ho, _, hb⟩
    rw [HLL.out] at ho
    obtain ⟨_, A3, c3, rfl⟩ := ownsRow_slice ho
    exact ⟨A3, c3, rfl, ho, hb⟩)
  refine CR.out.mono ?_; rintro e w3 ⟨A3, c3, rfl, ho3, hb3⟩
  have HO3 := Lib.hid ho3
  have HB3 := Lib.hid hb3
  clear ho3 hb3 CR
  obtain ⟨p, hp⟩ : ∃ p, p = (foldv L).length := ⟨_, rfl⟩
  have hpm : p ≤ m := by rw [hp]; exact HP.out
  have HPD := Lib.hid hp
  clear hp HP
  have CF : Hid (Calls Tryd.prog 10 #[.slice A2 m c2] w3 fun e w' => ∃ A4 c4, e = .returned (.slice A4 p c4) ∧ w'.ownsRow 0 32 3 (.slice A4 p c4) p (insCells (foldv L)) ∧ Below w3.heap.size w3 w') := Lib.hid (by
    refine (fold_any (v := .slice A2 m c2) (l := L) (by rw [HLL.out]; exact Src.of_row (ownsRow_kept HO2.out (Below.chg HB3.out) (fun _ _ x => x))) (by rw [HLL.out]; omega) HWF.out).mono ?_
    rintro e w' ⟨v', rfl, ho, _, hb⟩
    rw [← HPD.out] at ho
    obtain ⟨_, A4, c4, rfl⟩ := ownsRow_slice ho
    exact ⟨A4, c4, rfl, ho, hb⟩)
  go_wp2_with fail
  refine CF.out.mono ?_; rintro e w4 ⟨A4, c4, rfl, ho4, hb4⟩
  have HO4 := Lib.hid ho4
  have HB4 := Lib.hid hb4
  clear ho4 hb4 CF
  have CG : Hid (Calls Tryd.prog 10 #[.slice A4 p c4] w4 fun e w' => ∃ A5 c5, e = .returned (.slice A5 p c5) ∧ w'.ownsRow 0 32 3 (.slice A5 p c5) p (insCells (foldv L)) ∧ Below w4.heap.size w4 w') := Lib.hid (by
    refine (fold_any (v := .slice A4 p c4) (l := foldv L) (by rw [← HPD.out]; exact Src.of_row HO4.out) (by rw [← HPD.out]; omega) (foldv_wf _ L rfl HWF.out)).mono ?_
    rintro e w' ⟨v', rfl, ho, _, hb⟩
    rw [foldv_twice, ← HPD.out] at ho
    obtain ⟨_, A5, c5, rfl⟩ := ownsRow_slice ho
    exact ⟨A5, c5, rfl, ho, hb⟩)
  go_wp2_with fail
  refine CG.out.mono ?_; rintro e w5 ⟨A5, c5, rfl, ho5, hb5⟩
  have HO5 := Lib.hid ho5
  have HB5 := Lib.hid hb5
  clear ho5 hb5 CG
  have CH : Hid (Calls Tryd.prog 12 #[.slice A4 p c4] w5 fun e w' => ∃ A6 c6, e = .returned (.slice A6 p c6) ∧ w'.ownsRow 0 36 3 (.slice A6 p c6) p (insCells (foldv L)) ∧ Below w5.heap.size w5 w') := Lib.hid (by
    refine (ref_any (v := .slice A4 p c4) (l := foldv L) (by rw [← HPD.out]; exact Src.of_row (ownsRow_kept HO4.out (Below.chg HB5.out) (fun _ _ x => x))) (by rw [← HPD.out]; omega)).mono ?_
    rintro e w' ⟨v', rfl, ho, _, hb⟩
    rw [← HPD.out] at ho
    obtain ⟨_, A6, c6, rfl⟩ := ownsRow_slice ho
    exact ⟨A6, c6, rfl, ho, hb⟩)
  go_wp2_with fail
  refine CH.out.mono ?_; rintro e w6 ⟨A6, c6, rfl, ho6, hb6⟩
  have CS1 : Hid (Calls Tryd.prog 9 #[.slice A5 p c5, .slice A6 p c6] w6 fun e w' => e = .returned (.bool true) ∧ Below w6.heap.size w6 w') := Lib.hid (by
    have h := same_any (w := w6) (v1 := .slice A5 p c5) (v2 := .slice A6 p c6) (xs := foldv L) (ys := foldv L) (by rw [← HPD.out]; exact Src.of_row (ownsRow_kept HO5.out (Below.chg hb6) (fun _ _ x => x))) (by rw [← HPD.out]; exact Src.of_row ho6) (by rw [← HPD.out]; omega) (by rw [← HPD.out]; omega)
    rw [decide_eq_true rfl] at h
    exact h)
  have HB26 : Hid (Below w2.heap.size w2 w6) := Lib.hid (bel_trans HB3.out (bel_trans HB4.out (bel_trans HB5.out hb6)))
  have HB36 : Hid (Below w3.heap.size w3 w6) := Lib.hid (bel_trans HB4.out (bel_trans HB5.out hb6))
  clear ho6 hb6 CH
  go_wp2_with fail
  refine CS1.out.mono ?_; rintro e w7 ⟨rfl, hb7⟩
  have CS2 : Hid (Calls Tryd.prog 9 #[.slice A2 m c2, .slice A3 m c3] w7 fun e w' => e = .returned (.bool true) ∧ Below w7.heap.size w7 w') := Lib.hid (by
    have h := same_any (w := w7) (v1 := .slice A2 m c2) (v2 := .slice A3 m c3) (xs := L) (ys := L) (by rw [HLL.out]; exact Src.of_row (ownsRow_kept HO2.out (Below.chg (bel_trans HB26.out hb7)) (fun _ _ x => x))) (by rw [HLL.out]; exact Src.of_row (ownsRow_kept HO3.out (Below.chg (bel_trans HB36.out hb7)) (fun _ _ x => x))) (by rw [HLL.out]; omega) (by rw [HLL.out]; omega)
    rw [decide_eq_true rfl] at h
    exact h)
  have HB7 := Lib.hid (bel_trans HW2.out (bel_trans HB26.out hb7))
  clear hb7 CS1
  go_wp2_with fail
  refine CS2.out.mono ?_; rintro e w8 ⟨rfl, hb8⟩
  have HB8 := Lib.hid (bel_trans HB7.out hb8)
  clear hb8
  go_wp2_with fail
  go_ret
  exact ⟨rfl, HB8.out⟩
end Go.Proofs.YtnecgfofefinaaaDoor
