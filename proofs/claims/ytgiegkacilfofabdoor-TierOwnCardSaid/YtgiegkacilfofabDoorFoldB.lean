/- fold: free. -/
import Derived.Test.YtgiegkacilfofabDoorFoldA
namespace Go.Proofs.YtgiegkacilfofabDoor
set_option linter.unusedVariables false
set_option linter.unusedSimpArgs false
open Go.RowKit

/-- a folder in memory, and its instructions -/
structure FoldIs (w : World) (F : Nat) (V : Value) (l : List InsR) : Prop where
  box : w.heap[F]? = some (.cells #[V] 132 (0, 0))
  row : w.ownsRow 0 44 3 V l.length (insCells l)
  ne : V.ownBlock ≠ some F
theorem FoldIs.kept {w w' : World} {F : Nat} {V : Value} {l : List InsR} {S : Nat → Prop} (h : FoldIs w F V l) (hc : Chg S w w') (hF : ¬ S F) (hV : ∀ k, V.ownBlock = some k → ¬ S k) : FoldIs w' F V l := ⟨hc.heap h.box hF, ownsRow_kept h.row hc hV, h.ne⟩
theorem FoldIs.keep {w w' : World} {F : Nat} {V : Value} {l : List InsR} (h : FoldIs w F V l) (hb : Below w.heap.size w w') : FoldIs w' F V l := h.kept (Below.chg hb) (fun x => x) (fun _ _ x => x)
def freev (l : List InsR) (k : Int) : Bool := decide (k < (l.length : Int)) && !(l.any (hitv k))

set_option maxHeartbeats 2000000 in
set_option maxRecDepth 100000 in
theorem free_any {w : World} {F : Nat} {V : Value} {l : List InsR} (k : Int) (h : FoldIs w F V l) (hm : l.length ≤ 8796093022208) :
    Calls Tryd.prog 73 #[.pointer (some ⟨F, 0, none⟩), .int .i64 k] w fun e w' => e = .returned (.bool (freev l k)) ∧ Below w.heap.size w w' := by
  obtain ⟨_, A, c, rfl⟩ := ownsRow_slice h.row
  have hfv : freev l k = (decide (k < (l.length : Int)) && !(l.any (hitv k))) := rfl
  rw [hfv]
  obtain ⟨r, hr⟩ : ∃ r, l.any (hitv k) = r := ⟨_, rfl⟩
  obtain ⟨wa, hwa⟩ : ∃ wa, wa = w.alloc (.cells #[.int .i64 k] 3) := ⟨_, rfl⟩
  obtain ⟨p, hpp⟩ : ∃ p, p = w.heap.size := ⟨_, rfl⟩
  have hba : Below w.heap.size w wa := by rw [hwa]; exact (Below.refl _ _).alloc (Nat.le_refl _) _
  have hpa : wa.heap[p]? = some (.cells #[.int .i64 k] 3 (0, 0)) := by rw [hwa]; exact heap_new' hpp.symm
  have hfa := h.keep hba
  obtain ⟨n, hn⟩ : ∃ n, n = l.length := ⟨_, rfl⟩
  have SCX : Hid (∀ wx, Below wa.heap.size wa wx → wx.cell? ⟨p, 0, none⟩ = some (.int .i64 k) ∧ wx.cell? ⟨F, 0, none⟩ = some (.slice A n c)) := Lib.hid (fun wx hb => ⟨cell_of_block ((Below.chg hb).heap hpa (fun x => x)) 0, by rw [hn]; exact cell_of_block ((Below.chg hb).heap hfa.box (fun x => x)) 0⟩)
  have CC : Hid (∀ wx, Below wa.heap.size wa wx → Calls Tryd.prog 61 #[.slice A n c, .func (.func 79) #[] #[.pointer (some ⟨p, 0, none⟩)]] wx fun e w' => e = .returned (.bool r) ∧ Below wx.heap.size wx w') := Lib.hid (fun wx hb => by
    have h := contains_any k p (w := wx) (Src.of_row ((hfa.keep hb).row)) hm (cell_of_block ((Below.chg hb).heap hpa (fun x => x)) 0)
    rw [hr, ← hn] at h
    exact h)
  have HW := Lib.hid (And.intro hpp hwa)
  have HBA := Lib.hid hba
  rw [hr, ← hn]
  rw [← hn] at hm
  clear h hfv hr hwa hpp hba hpa hfa hn
  by_cases hlt : k < (n : Int)
  · rw [decide_eq_true hlt, Bool.true_and]
    go_enter Tryd.func73, Tryd.ntmps73
    go_upto_region 1 with fail
    rw [← HW.out.1, ← HW.out.2]
    refine wp_region_ord (S := fun w' => w'.cell? ⟨p, 0, none⟩ = some (.int .i64 k) ∧ w'.cell? ⟨F, 0, none⟩ = some (.slice A n c)) (N := fun i => true) (by kernel_rfl) [(0, true), (1, true), (2, true), (3, true), (4, true), (5, true), (6, true), (7, true), (8, true), (9, true), (10, true), (11, true), (12, true), (13, false), (14, true), (15, true), (16, true)] (by kernel_rfl) ?_
    obtain ⟨wd, hwd⟩ : ∃ wd, wd = wa.drew := ⟨_, rfl⟩
    have hb : Below wa.heap.size wa wd := by rw [hwd]; exact (Below.refl _ _).drew
    rw [← hwd]
    clear hwd
    have hS := SCX.out wd hb
    iterate 13 (refine ord_look rfl hS rfl (by intro w hS; obtain ⟨p0, p1⟩ := hS; go_simp; with_reducible rfl) (fun c a w h => h) ?_; simp only [Act.put, List.setIfInBounds_toArray, List.set_cons_succ, List.set_cons_zero])
    refine ord_act rfl rfl (fun K hK => ?_)
    refine wp_call 61 _ _ Tryd.func61 rfl (by kernel_rfl) _ _ rfl #[.slice A n c, .func (.func 79) #[] #[.pointer (some ⟨p, 0, none⟩)]] (by simp [Act.eval]) (R := fun v w1 => v = .bool r ∧ Below wd.heap.size wd w1) (calls_ret (CC.out wd hb) (by rintro e w1 ⟨rfl, h⟩; exact ⟨_, rfl, rfl, h⟩)) ?_
    rintro v w1 ⟨rfl, hb1⟩
    replace hb := bel_trans hb hb1
    replace hS := SCX.out w1 hb
    refine hK _ _ ⟨fun _ => hS, ?_⟩
    clear hK K hb1
    simp only [Act.put, List.setIfInBounds_toArray, List.set_cons_succ, List.set_cons_zero]
    iterate 3 (refine ord_look rfl hS rfl (by intro w hS; obtain ⟨p0, p1⟩ := hS; go_simp; with_reducible rfl) (fun c a w h => h) ?_; simp only [Act.put, List.setIfInBounds_toArray, List.set_cons_succ, List.set_cons_zero])
    refine ord_end ?_
    have HB := Lib.hid (bel_trans HBA.out hb)
    clear hb hS
    go_wp2_with fail
    go_ret
    exact ⟨rfl, HB.out⟩
  · rw [decide_eq_false hlt, Bool.false_and]
    go_enter Tryd.func73, Tryd.ntmps73
    go_upto_region 1 with fail
    rw [← HW.out.1, ← HW.out.2]
    refine wp_region_ord (S := fun w' => w'.cell? ⟨p, 0, none⟩ = some (.int .i64 k) ∧ w'.cell? ⟨F, 0, none⟩ = some (.slice A n c)) (N := fun i => true) (by kernel_rfl) [(0, true), (1, true), (2, true), (3, true), (4, true), (5, true), (6, true), (7, true), (8, true), (9, true), (10, true), (11, true), (12, true), (13, true), (14, true), (15, true), (16, true)] (by kernel_rfl) ?_
    obtain ⟨wd, hwd⟩ : ∃ wd, wd = wa.drew := ⟨_, rfl⟩
    have hb : Below wa.heap.size wa wd := by rw [hwd]; exact (Below.refl _ _).drew
    rw [← hwd]
    clear hwd
    have hS := SCX.out wd hb
    iterate 8 (refine ord_look rfl hS rfl (by intro w hS; obtain ⟨p0, p1⟩ := hS; go_simp; with_reducible rfl) (fun c a w h => h) ?_; simp only [Act.put, List.setIfInBounds_toArray, List.set_cons_succ, List.set_cons_zero])
    iterate 7 (refine ord_skip rfl hS rfl (fun c a w h => h) ?_; simp only [Act.put, List.setIfInBounds_toArray, List.set_cons_succ, List.set_cons_zero])
    iterate 2 (refine ord_look rfl hS rfl (by intro w hS; obtain ⟨p0, p1⟩ := hS; go_simp; with_reducible rfl) (fun c a w h => h) ?_; simp only [Act.put, List.setIfInBounds_toArray, List.set_cons_succ, List.set_cons_zero])
    refine ord_end ?_
    have HB := Lib.hid (bel_trans HBA.out hb)
    clear hb hS
    go_wp2_with fail
    go_ret
    exact ⟨rfl, HB.out⟩
end Go.Proofs.YtgiegkacilfofabDoor
