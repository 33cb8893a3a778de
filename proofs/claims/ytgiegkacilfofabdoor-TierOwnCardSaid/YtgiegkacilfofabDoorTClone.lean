/- slices.Clone at rows of events and of truth values. -/
import Derived.Test.YtgiegkacilfofabDoorFoldRun
namespace Go.Proofs.YtgiegkacilfofabDoor
set_option linter.unusedVariables false
set_option linter.unusedSimpArgs false
open Go.RowKit

theorem infoEv : (Tryd.prog.info? 41).map (fun i => (i.zero, i.size, i.bytes)) = some (some (.agg #[.int .i64 0, .int .i64 0]), 2, 16) := by kernel_rfl
theorem infoBo : (Tryd.prog.info? 4).map (fun i => (i.zero, i.size, i.bytes)) = some (some (.bool false), 1, 1) := by kernel_rfl
set_option maxRecDepth 100000 in
theorem cloneEv_some {w : World} {ad : Addr} {n cap : Nat} {cs : List Value} (hcs : ∀ (j : Nat) u, cs[j]? = some u → w.cell? (ad.add j) = some u) (hl : cs.length = n * 2) (h1 : ∀ u ∈ cs, u.oneCell' = true) (hn : n ≤ 8796093022207) :
    Calls Tryd.prog 26 #[.slice (some ad) n cap] w fun e w' => ∃ v', e = .returned v' ∧ w'.ownsRow 0 41 2 v' n cs ∧ (∀ k, v'.ownBlock = some k → w.heap.size ≤ k) ∧ Chg (fun _ => False) w w' := by
  obtain ⟨i0, hi, hz0, hz1, hz2⟩ := info_parts infoEv
  have hrow : (w.alloc (.cells #[] 41)).ownsRow 0 41 2 (.slice (some ⟨w.heap.size, 0, none⟩) 0 0) 0 [] :=
    ⟨rfl, .inr ⟨w.heap.size, 0, #[], rfl, Nat.zero_le _, heap_new _ _, Nat.le_refl _, by simp [maxLen], rfl, rfl⟩⟩
  have hnews : ∀ (j : Nat) u, cs[j]? = some u → (w.alloc (.cells #[] 41)).cell? (ad.add j) = some u := fun j u hu => cell_alloc (hcs j u hu) _
  have HR := Lib.hid hrow
  have HNW := Lib.hid hnews
  clear hcs hnews hrow
  have hnil := Go.run_eql_slice_nil (P := Tryd.prog) w 35 _ (some ad) n cap Tryd.underlying35
  simp only [Option.isNone] at hnil
  go_enter Tryd.func26, Tryd.ntmps26
  go_wp2_with (at_builtin; refine wpList_append_own_at _ rfl _ _ 35 rfl 0 41 i0 _ 2 16 Tryd.underlying35 hi hz0 hz1 hz2 rfl (by omega) (.slice (some ⟨w.heap.size, 0, none⟩) 0 0) 0 [] rfl HR.out ad n cap cs rfl hl HNW.out h1 (by unfold maxLen; omega) (by omega) (by omega) ?_; intro v' w' h2 h3 _ h5; simp only [Nat.zero_add, List.nil_append] at h2)
  go_ret
  refine ⟨v', rfl, h2, fun k hk => ?_, ((Chg.refl (fun _ => False) w).alloc _).grownBy h3 (fun k hk hlt => ?_)⟩
  · rcases h5 with h5 | h5
    · rw [h5] at hk
      have hk : w.heap.size = k := by injection hk
      omega
    · rw [h5] at hk
      injection hk with hk
      rw [← hk]
      simp
  · have hk : w.heap.size = k := by injection hk
    omega
set_option maxRecDepth 100000 in
theorem cloneEv_nil {w : World} {cap : Nat} :
    Calls Tryd.prog 26 #[.slice none 0 cap] w fun e w' => ∃ v', e = .returned v' ∧ w'.ownsRow 0 41 2 v' 0 [] ∧ (∀ k, v'.ownBlock = some k → w.heap.size ≤ k) ∧ Chg (fun _ => False) w w' := by
  have hnil := Go.run_eql_slice_nil (P := Tryd.prog) w 35 _ none 0 cap Tryd.underlying35
  simp only [Option.isNone] at hnil
  go_enter Tryd.func26, Tryd.ntmps26
  go_wp2_with fail
  go_ret
  exact ⟨_, rfl, World.ownsRow_nil _ _ _ _, (fun k hk => by cases hk), Chg.refl _ _⟩
theorem cloneEv_any {w : World} {v : Value} {n : Nat} {cs : List Value} (h : Src w v n cs) (hl : cs.length = n * 2) (h1 : ∀ u ∈ cs, u.oneCell' = true) (hn : n ≤ 8796093022207) :
    Calls Tryd.prog 26 #[v] w fun e w' => ∃ v', e = .returned v' ∧ w'.ownsRow 0 41 2 v' n cs ∧ (∀ k, v'.ownBlock = some k → w.heap.size ≤ k) ∧ Chg (fun _ => False) w w' := by
  rcases h with ⟨⟨A, c, rfl⟩, rfl, rfl⟩ | ⟨b, off, cap, rfl, hb, hnc, hc, hcs⟩
  · cases A with
    | none => exact cloneEv_nil
    | some ad => exact cloneEv_some (fun j u hu => by simp at hu) (by simp) (fun u hu => by simp at hu) (by omega)
  · refine cloneEv_some (fun j u hu => ?_) hl h1 hn
    have : (⟨b, off, none⟩ : Addr).add j = ⟨b, off + j, none⟩ := by unfold Addr.add; split <;> simp_all
    rw [this]
    exact hcs j u hu

set_option maxRecDepth 100000 in
theorem cloneBo_some {w : World} {ad : Addr} {n cap : Nat} {cs : List Value} (hcs : ∀ (j : Nat) u, cs[j]? = some u → w.cell? (ad.add j) = some u) (hl : cs.length = n * 1) (h1 : ∀ u ∈ cs, u.oneCell' = true) (hn : n ≤ 140737488355327) :
    Calls Tryd.prog 16 #[.slice (some ad) n cap] w fun e w' => ∃ v', e = .returned v' ∧ w'.ownsRow 0 4 1 v' n cs ∧ (∀ k, v'.ownBlock = some k → w.heap.size ≤ k) ∧ Chg (fun _ => False) w w' := by
  obtain ⟨i0, hi, hz0, hz1, hz2⟩ := info_parts infoBo
  have hrow : (w.alloc (.cells #[] 4)).ownsRow 0 4 1 (.slice (some ⟨w.heap.size, 0, none⟩) 0 0) 0 [] :=
    ⟨rfl, .inr ⟨w.heap.size, 0, #[], rfl, Nat.zero_le _, heap_new _ _, Nat.le_refl _, by simp [maxLen], rfl, rfl⟩⟩
  have hnews : ∀ (j : Nat) u, cs[j]? = some u → (w.alloc (.cells #[] 4)).cell? (ad.add j) = some u := fun j u hu => cell_alloc (hcs j u hu) _
  have HR := Lib.hid hrow
  have HNW := Lib.hid hnews
  clear hcs hnews hrow
  have hnil := Go.run_eql_slice_nil (P := Tryd.prog) w 30 _ (some ad) n cap Tryd.underlying30
  simp only [Option.isNone] at hnil
  go_enter Tryd.func16, Tryd.ntmps16
  go_wp2_with (at_builtin; refine wpList_append_own_at _ rfl _ _ 30 rfl 0 4 i0 _ 1 1 Tryd.underlying30 hi hz0 hz1 hz2 rfl (by omega) (.slice (some ⟨w.heap.size, 0, none⟩) 0 0) 0 [] rfl HR.out ad n cap cs rfl hl HNW.out h1 (by unfold maxLen; omega) (by omega) (by omega) ?_; intro v' w' h2 h3 _ h5; simp only [Nat.zero_add, List.nil_append] at h2)
  go_ret
  refine ⟨v', rfl, h2, fun k hk => ?_, ((Chg.refl (fun _ => False) w).alloc _).grownBy h3 (fun k hk hlt => ?_)⟩
  · rcases h5 with h5 | h5
    · rw [h5] at hk
      have hk : w.heap.size = k := by injection hk
      omega
    · rw [h5] at hk
      injection hk with hk
      rw [← hk]
      simp
  · have hk : w.heap.size = k := by injection hk
    omega
set_option maxRecDepth 100000 in
theorem cloneBo_nil {w : World} {cap : Nat} :
    Calls Tryd.prog 16 #[.slice none 0 cap] w fun e w' => ∃ v', e = .returned v' ∧ w'.ownsRow 0 4 1 v' 0 [] ∧ (∀ k, v'.ownBlock = some k → w.heap.size ≤ k) ∧ Chg (fun _ => False) w w' := by
  have hnil := Go.run_eql_slice_nil (P := Tryd.prog) w 30 _ none 0 cap Tryd.underlying30
  simp only [Option.isNone] at hnil
  go_enter Tryd.func16, Tryd.ntmps16
  go_wp2_with fail
  go_ret
  exact ⟨_, rfl, World.ownsRow_nil _ _ _ _, (fun k hk => by cases hk), Chg.refl _ _⟩
theorem cloneBo_any {w : World} {v : Value} {n : Nat} {cs : List Value} (h : Src w v n cs) (hl : cs.length = n * 1) (h1 : ∀ u ∈ cs, u.oneCell' = true) (hn : n ≤ 140737488355327) :
    Calls Tryd.prog 16 #[v] w fun e w' => ∃ v', e = .returned v' ∧ w'.ownsRow 0 4 1 v' n cs ∧ (∀ k, v'.ownBlock = some k → w.heap.size ≤ k) ∧ Chg (fun _ => False) w w' := by
  rcases h with ⟨⟨A, c, rfl⟩, rfl, rfl⟩ | ⟨b, off, cap, rfl, hb, hnc, hc, hcs⟩
  · cases A with
    | none => exact cloneBo_nil
    | some ad => exact cloneBo_some (fun j u hu => by simp at hu) (by simp) (fun u hu => by simp at hu) (by omega)
  · refine cloneBo_some (fun j u hu => ?_) hl h1 hn
    have : (⟨b, off, none⟩ : Addr).add j = ⟨b, off + j, none⟩ := by unfold Addr.add; split <;> simp_all
    rw [this]
    exact hcs j u hu

end Go.Proofs.YtgiegkacilfofabDoor
