/- The cache: Drop. -/
import Derived.Test.YtgiegkacilfofabDoorCache
namespace Go.Proofs.YtgiegkacilfofabDoor
set_option linter.unusedVariables false
set_option linter.unusedSimpArgs false
open Go.RowKit

theorem erase_one (es : List Ent) (fn : Int) (hn : (es.map Ent.fn).Nodup) (e : Ent) (he : e ∈ es) (hf : e.fn = fn) :
    ∃ i, (es.map Ent.fn)[i]? = some fn ∧ (∀ j, j ≠ i → (es.map Ent.fn)[j]? ≠ some fn) ∧ (es.map Ent.fn).eraseIdx i = (es.filter (fun e => e.fn != fn)).map Ent.fn ∧ (es.filter (fun e => e.fn != fn)).length = es.length - 1 ∧ 0 < es.length := by
  obtain ⟨l1, l2, rfl⟩ := List.append_of_mem he
  rw [List.map_append, List.map_cons, hf] at hn
  have h1 : fn ∉ l1.map Ent.fn := fun h => by
    have := (List.nodup_append.1 hn).2.2 fn h fn (by simp)
    exact this rfl
  have h2 : fn ∉ l2.map Ent.fn := ((List.nodup_cons.1 (List.nodup_append.1 hn).2.1)).1
  have f1 : l1.filter (fun e => e.fn != fn) = l1 := List.filter_eq_self.2 fun x hx => by
    simp only [bne_iff_ne, ne_eq]
    exact fun e => h1 (List.mem_map.2 ⟨x, hx, e⟩)
  have f2 : l2.filter (fun e => e.fn != fn) = l2 := List.filter_eq_self.2 fun x hx => by
    simp only [bne_iff_ne, ne_eq]
    exact fun e => h2 (List.mem_map.2 ⟨x, hx, e⟩)
  have hx : (l1 ++ e :: l2).map Ent.fn = l1.map Ent.fn ++ fn :: l2.map Ent.fn := by rw [List.map_append, List.map_cons, hf]
  have hfl : (l1 ++ e :: l2).filter (fun e => e.fn != fn) = l1 ++ l2 := by
    rw [List.filter_append, List.filter_cons, f1, f2, if_neg (by simp [hf])]
  refine ⟨l1.length, ?_, fun j hj => ?_, ?_, ?_, by simp only [List.length_append, List.length_cons]; omega⟩
  · rw [hx, List.getElem?_append_right (by simp)]; simp
  · rw [hx]
    intro h
    rcases Nat.lt_or_gt_of_ne hj with hj | hj
    · rw [List.getElem?_append_left (by simpa using hj)] at h
      exact h1 (List.mem_of_getElem? h)
    · rw [List.getElem?_append_right (by simp; omega)] at h
      obtain ⟨t, ht⟩ : ∃ t, j - (l1.map Ent.fn).length = t + 1 := ⟨j - l1.length - 1, by simp; omega⟩
      rw [ht, List.getElem?_cons_succ] at h
      exact h2 (List.mem_of_getElem? h)
  · rw [hx, hfl, List.eraseIdx_append_of_length_le (by simp)]
    simp
  · rw [hfl]; simp
theorem find_filter (es : List Ent) (fn k : Int) : (es.filter (fun e => e.fn != fn)).find? (fun e => e.fn == k) = if k = fn then none else es.find? (fun e => e.fn == k) := by
  rw [List.find?_filter]
  by_cases h : k = fn
  · rw [if_pos h, List.find?_eq_none]
    intro x _
    simp [h]
  · rw [if_neg h]
    congr 1
    funext a
    by_cases e : a.fn = k
    · have : a.fn ≠ fn := fun e2 => h (by rw [← e, e2])
      simp [e, h]
    · simp [e]
theorem filter_told (es : List Ent) (fn : Int) : (es.map Ent.told).filter (fun e => e.1 != fn) = (es.filter (fun e => e.fn != fn)).map Ent.told := by
  rw [List.filter_map]
  rfl
theorem getl_none {l : List (Int × List InsR)} {fn : Int} (h : getl l fn = none) : l.filter (fun e => e.1 != fn) = l := by
  unfold getl at h
  rw [Option.map_eq_none_iff, List.find?_eq_none] at h
  rw [List.filter_eq_self]
  intro x hx
  have := h x hx
  simpa using this

set_option maxHeartbeats 1000000 in
set_option maxRecDepth 100000 in
theorem cache_drop_out {w : World} {S : Nat → Prop} {c : Nat} {cap : Int} {n : Nat} {l : List (Int × List InsR)} (h : CacheIs w S c cap n l) (fn : Int) (hf : (Lit.int .i64 fn).wf = true) (hg : getl l fn = none) :
    Calls Tryd.prog 23 #[.pointer (some ⟨c, 0, none⟩), .int .i64 fn] w fun e w' => e = .returned (.bool false) ∧ Chg (fun _ => False) w w' := by
  obtain ⟨vo, m, M, es, h, rfl⟩ := h
  have hc1 : Chg (fun _ => False) w (w.alloc (.cells #[.int .i64 fn] 3)) := (Chg.refl _ _).alloc _
  have h' := h.kept hc1 (fun _ _ x => x)
  have c2 := cell_of_block h'.blk 2
  simp at c2
  have hm := h.maps fn hf
  have hl := h'.map.look fn hf
  rw [getl_told] at hg
  have hMn : M fn = none := by
    rw [hm]
    cases hx : es.find? (fun e => e.fn == fn) with
    | none => rfl
    | some e => rw [hx] at hg; cases hg
  rw [hMn] at hl
  simp only [Option.getD_none, Option.isSome_none] at hl
  have hld : (Instr.lookup 84 (.map (some m)) (.int .i64 fn) true).run Tryd.prog (w.alloc (.cells #[.int .i64 fn] 3)).drew = .ok (.tuple #[.slice none 0 0, .bool false]) (w.alloc (.cells #[.int .i64 fn] 3)).drew := by
    have := (h'.map.kept ((Chg.refl (fun _ => False) _).drew) (fun x => x)).look fn hf
    rw [hMn] at this
    exact this
  have hk0 : (w.alloc (.cells #[.int .i64 fn] 3)).cell? ⟨w.heap.size, 0, none⟩ = some (.int .i64 fn) := by
    rw [cell_of_block (heap_new _ _)]
    rfl
  clear h h' hm hMn hg
  go_enter Tryd.func23, Tryd.ntmps23
  go_wp2_with fail
  go_region
  go_wp2_with fail
  go_ret
  exact ⟨rfl, hc1.drew⟩

set_option maxHeartbeats 2000000 in
set_option maxRecDepth 100000 in
theorem cache_drop_in {w : World} {S : Nat → Prop} {c : Nat} {cap : Int} {n : Nat} {l : List (Int × List InsR)} (h : CacheIs w S c cap n l) (fn : Int) (hf : (Lit.int .i64 fn).wf = true) (hg : (getl l fn).isSome = true) :
    Calls Tryd.prog 23 #[.pointer (some ⟨c, 0, none⟩), .int .i64 fn] w fun e w' => e = .returned (.bool true) ∧ CacheIs w' S c cap n (l.filter (fun e => e.1 != fn)) ∧ Chg S w w' := by
  obtain ⟨vo, m, M, es, h, rfl⟩ := h
  obtain ⟨wa, hwa⟩ : ∃ wa, wa = w.alloc (.cells #[.int .i64 fn] 3) := ⟨_, rfl⟩
  have hc1 : Chg (fun _ => False) w wa := by rw [hwa]; exact (Chg.refl _ _).alloc _
  have hwl : wa.heap.size = w.heap.size + 1 := by rw [hwa]; simp
  have hkb : wa.heap[w.heap.size]? = some (.cells #[.int .i64 fn] 3 (0, 0)) := by rw [hwa]; exact heap_new _ _
  have hb := h.bound
  have h' := h.bound.kept hc1 (fun _ _ x => x)
  have c1 := cell_of_block h'.blk 1
  simp at c1
  have c2 := cell_of_block h'.blk 2
  simp at c2
  have hm := h.maps fn hf
  have hl := h'.map.look fn hf
  rw [getl_told] at hg
  obtain ⟨e, hfe⟩ : ∃ e, es.find? (fun e => e.fn == fn) = some e := by
    cases hx : es.find? (fun e => e.fn == fn) with
    | none => rw [hx] at hg; cases hg
    | some e => exact ⟨e, rfl⟩
  have hMn : M fn = some e.val := by rw [hm, hfe]; rfl
  rw [hMn] at hl
  simp only [Option.getD_some, Option.isSome_some] at hl
  have hld : (Instr.lookup 84 (.map (some m)) (.int .i64 fn) true).run Tryd.prog wa.drew = .ok (.tuple #[e.val, .bool true]) wa.drew := by
    have := (h'.map.kept ((Chg.refl (fun _ => False) _).drew) (fun x => x)).look fn hf
    rw [hMn] at this
    exact this
  have hk0 : wa.cell? ⟨w.heap.size, 0, none⟩ = some (.int .i64 fn) := by rw [cell_of_block hkb]; rfl
  obtain ⟨i, i1, i2, i3, i4, i5⟩ := erase_one es fn h.nodup e (List.mem_of_find?_eq_some hfe) (by have := List.find?_some hfe; simpa using this)
  have HB := Lib.hid hb
  have H' := Lib.hid h'
  have HKB := Lib.hid hkb
  have HI := Lib.hid (And.intro i1 (And.intro i2 (And.intro i3 (And.intro i4 i5))))
  have hvl : ∃ A cp, vo = .slice A es.length cp := (ownsRow_slice h.own).2
  clear h h' hb hm hMn hg hfe i1 i2 i3 i4 i5 hkb
  go_enter Tryd.func23, Tryd.ntmps23
  go_wp2_with fail
  rw [← hwa]
  have HC1 := Lib.hid hc1
  clear hwa hc1
  go_wp2_with fail
  go_region
  go_wp2_with fail
  have hcd : Chg (fun _ => False) wa wa.drew.drew := ((Chg.refl _ _).drew).drew
  have H2 := Lib.hid (H'.out.kept hcd (fun _ _ x => x))
  obtain ⟨w2, hrun, hmap2, hch2⟩ := H2.out.map.drop fn hf 0
  have hS0 : wa.drew.drew.cell? ⟨c, 2, none⟩ = some (.map (some m)) ∧ wa.drew.drew.cell? ⟨w.heap.size, 0, none⟩ = some (.int .i64 fn) := ⟨c2, hk0⟩
  refine wp_region_ord (S := fun w' => w'.cell? ⟨c, 2, none⟩ = some (.map (some m)) ∧ w'.cell? ⟨w.heap.size, 0, none⟩ = some (.int .i64 fn)) (N := fun i => i != 5) (by kernel_rfl) [(0, true), (1, true), (2, true), (3, true), (4, true), (5, false)] (by kernel_rfl) ?_
  iterate 5 (refine ord_look rfl hS0 rfl (by intro w hS; obtain ⟨hS1, hS2⟩ := hS; go_simp; with_reducible rfl) (fun c a w h => h) ?_; simp only [Act.put, List.setIfInBounds_toArray, List.set_cons_succ, List.set_cons_zero])
  refine ord_act rfl rfl (fun K hK => ?_)
  go_simp
  refine hK _ _ ⟨fun h => absurd h (by decide), ?_⟩
  clear hK K
  refine ord_end ?_
  have h2 := H2.out
  have hmlt : m < w.heap.size := h2.hm.1.2
  have hclt : c < w.heap.size := h2.hc.2
  have hbl2 := hch2.heap h2.blk (fun e => h2.hm.2 e.symm)
  have d1 := cell_of_block hbl2 1
  simp at d1
  have hk2 : w2.heap[w.heap.size]? = some (.cells #[.int .i64 fn] 3 (0, 0)) := hch2.heap (hcd.heap HKB.out (fun x => x)) (fun e => by omega)
  have hkc : w2.cell? ⟨w.heap.size, 0, none⟩ = some (.int .i64 fn) := by rw [cell_of_block hk2]; rfl
  obtain ⟨i1, i2, i3, i4, i5⟩ := HI.out
  have CD := Lib.hid (deleteFunc_any fn w.heap.size (es.map Ent.fn) i (n := es.length) (by simp) (by have := h2.capok; omega) (ownsRow_kept h2.own hch2 (fun k hk e => (h2.neo k hk).2.2 e)) hkc (fun e => by have := (h2.neo _ e).1.2; omega) i1 (fun j hj => i2 j (by omega)) (fun j hj => i2 j (by omega)))
  have HD := Lib.hid (And.intro hmap2 (And.intro hch2 (And.intro hbl2 (And.intro hmlt hclt))))
  clear hmap2 hch2 hbl2 hmlt hclt hk2 hkc i1 i2 i3 i4 i5 h2 hrun hcd hS0 hl hld c1 c2 hk0
  go_wp2_with fail
  refine CD.out.mono ?_; rintro e w3 ⟨v', rfl, hown3, hvb, hch3⟩
  obtain ⟨_, A', cp', rfl⟩ := ownsRow_slice hown3
  obtain ⟨v', hv'⟩ : ∃ v', v' = Value.slice A' (es.length - 1) cp' := ⟨_, rfl⟩
  rw [← hv'] at hown3 hvb
  have h2 := H2.out
  obtain ⟨hmap2, hch2, hbl2, hmlt, hclt⟩ := HD.out
  have hbl3 := hch3.heap hbl2 (fun e => (h2.neo _ e).2.1 rfl)
  have f3 := frozen_of_block hbl3 1
  have d3 := cell_of_block hbl3 1
  simp at d3
  have HE := Lib.hid (And.intro hown3 (And.intro hvb (And.intro hch3 hbl3)))
  rw [hv'] at HE
  clear hv' hown3 hvb hch3 hbl3 h2 hmap2 hch2 hbl2 hmlt hclt
  go_wp2_with fail
  go_ret
  have h2 := H2.out
  obtain ⟨hmap2, hch2, hbl2, hmlt, hclt⟩ := HD.out
  obtain ⟨hown3, hvb, hch3, hbl3⟩ := HE.out
  obtain ⟨i1, i2, i3, i4, i5⟩ := HI.out
  generalize Value.slice A' (es.length - 1) cp' = v' at *
  have hch4 : Chg (fun k => k = c) w3 (w3.setCell ⟨c, 1, none⟩ v') := Chg.set_cell ⟨c, 1, none⟩ v'
  refine ⟨rfl, ?_, ?_⟩
  · rw [filter_told]
    refine ⟨v', m, fun x => if x = fn then none else M x, es.filter (fun e => e.fn != fn), ⟨HB.out.hc.1, heap_set hbl3 1 _, ?_, fun k hk => ?_, ⟨HB.out.hm.1.1, HB.out.hm.2⟩, ?_, fun k hk => ?_, fun x hx => ?_, ?_, HB.out.capok.1, HB.out.capok.2.1, ?_⟩, rfl⟩
    · rw [i4, ← i3]
      exact ownsRow_kept hown3 hch4 (fun k hk e => by rw [hvb] at hk; exact (h2.neo k hk).2.1 e)
    · rw [hvb] at hk
      exact ⟨(h2.neo k hk).1.1, (h2.neo k hk).2⟩
    · exact (hmap2.kept hch3 (fun e => (h2.neo _ e).2.2 rfl)).kept hch4 h2.hm.2
    · rw [find_filter]
      by_cases e : k = fn
      · rw [if_pos e, if_pos e]; rfl
      · rw [if_neg e, if_neg e]; exact h2.maps k hk
    · have hx' := (List.mem_filter.1 hx).1
      obtain ⟨j1, j2, j3, j4⟩ := h2.ent x hx'
      refine ⟨j1, j2, ownsRow_kept (ownsRow_kept (ownsRow_kept j3 hch2 (fun k hk e => (j4 k hk).2.2.1 e)) hch3 (fun k hk e => (j4 k hk).2.2.2 e)) hch4 (fun k hk e => (j4 k hk).2.1 e), fun k hk => ⟨(j4 k hk).1.1, (j4 k hk).2.1, (j4 k hk).2.2.1, by rw [hvb]; exact (j4 k hk).2.2.2⟩⟩
    · exact h2.nodup.sublist ((List.filter_sublist).map _)
    · have := h2.capok
      rw [i4]
      omega
  · have hx : Chg (fun k => S k ∧ k < w.heap.size) wa.drew.drew (w3.setCell ⟨c, 1, none⟩ v') := by
      refine ((hch2.trans hch3 (T := fun k => S k ∧ k < w.heap.size) (fun k _ e => by rw [e]; exact h2.hm.1) (fun k _ e => (h2.neo k e).1))).trans hch4 (fun _ _ x => x) (fun k _ e => by rw [e]; exact h2.hc)
    have h0 : Chg (fun _ => False) w wa.drew.drew := HC1.out.drew.drew
    exact h0.trans hx (fun _ _ x => x.elim) (fun k _ e => e.1)

theorem cache_drop_any {w : World} {S : Nat → Prop} {c : Nat} {cap : Int} {n : Nat} {l : List (Int × List InsR)} (h : CacheIs w S c cap n l) (fn : Int) (hf : (Lit.int .i64 fn).wf = true) :
    Calls Tryd.prog 23 #[.pointer (some ⟨c, 0, none⟩), .int .i64 fn] w fun e w' => e = .returned (.bool (getl l fn).isSome) ∧ CacheIs w' S c cap n (l.filter (fun e => e.1 != fn)) ∧ Chg S w w' := by
  cases hg : getl l fn with
  | none =>
    refine (cache_drop_out h fn hf hg).mono ?_
    rintro e w' ⟨rfl, hc⟩
    rw [getl_none hg]
    exact ⟨rfl, h.kept hc (fun _ _ x => x), hc.mono (fun _ _ x => x.elim)⟩
  | some b => exact cache_drop_in h fn hf (by rw [hg]; rfl)
end Go.Proofs.YtgiegkacilfofabDoor
