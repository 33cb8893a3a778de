/- The cache: Put. -/
import Derived.Test.YtgiegkacilfofabDoorCacheDrop
namespace Go.Proofs.YtgiegkacilfofabDoor
set_option linter.unusedVariables false
set_option linter.unusedSimpArgs false
open Go.RowKit

section
variable {w w2 w3 : World} {S : Nat → Prop} {c : Nat} {cap : Int} {vo : Value} {m n : Nat} {M : Int → Option Value} {es : List Ent} {fn : Int} {g cp k : Nat}

/-- behind the append, and the store of the row -/
theorem CSt.put_body (h : CSt w S c cap vo m n M es) (hown2 : w2.ownsRow 0 3 1 (.slice (some ⟨g, 0, none⟩) (k + 1) cp) (k + 1) (ints (es.map Ent.fn) ++ [.int .i64 fn])) (hgrow : (w.alloc (.cells #[.int .i64 fn] 3)).grownBy w2 vo.ownBlock) (hat : vo.ownBlock = some g ∨ g = w.heap.size + 1) (hlt : g < w2.heap.size) (hk : k = es.length)
    (hw3 : w3 = w2.setCell ⟨c, 1, none⟩ (.slice (some ⟨g, 0, none⟩) (k + 1) cp)) :
    w3.heap[c]? = some (.cells #[.int .i64 cap, .slice (some ⟨g, 0, none⟩) (k + 1) cp, .map (some m)] 86 (0, 0)) ∧ Chg S w w3 ∧ MapIs w3 m n M ∧ w3.ownsRow 0 3 1 (.slice (some ⟨g, 0, none⟩) (k + 1) cp) (es.length + 1) (ints (es.map Ent.fn ++ [fn])) ∧
      (S g ∨ w.heap.size ≤ g) ∧ g ≠ c ∧ g ≠ m ∧ (∀ e ∈ es, w3.ownsRow 0 44 3 e.val e.body.length (insCells e.body) ∧ e.val.ownBlock ≠ some g) ∧ g < w3.heap.size := by
  have hvc : vo.ownBlock ≠ some c := fun e => (h.neo c e).2.1 rfl
  have hcl := lt_of_heap h.blk
  have hml := h.map.lt
  have hc2 : Chg (fun k => vo.ownBlock = some k) w w2 := ((Chg.refl _ _).alloc _).grownBy hgrow (fun k hk _ => hk)
  have hg : g ≠ c ∧ g ≠ m := by
    rcases hat with hat | hat
    · exact (h.neo g hat).2
    · omega
  have hc3 : Chg (fun k => vo.ownBlock = some k ∨ k = c) w w3 := by
    rw [hw3]
    exact (hc2.mono (fun _ _ x => .inl x)).setCell (fun _ => .inr rfl) _
  refine ⟨?_, hc3.mono (fun k _ e => e.elim (fun e => (h.neo k e).1) (fun e => by rw [e]; exact h.hc)), h.map.kept hc3 (fun e => e.elim (fun e => (h.neo _ e).2.2 rfl) (fun e => h.hm.2 e)), ?_, ?_, hg.1, hg.2, fun e he => ⟨?_, ?_⟩, ?_⟩
  · rw [hw3]
    exact heap_set (hc2.heap h.blk hvc) 1 _
  · rw [hw3, ← hk]
    have := ownsRow_kept hown2 (Chg.set_cell ⟨c, 1, none⟩ (.slice (some ⟨g, 0, none⟩) (k + 1) cp)) (fun k hk e => hg.1 (by injection hk with hk; exact hk.trans e))
    simpa [ints] using this
  · rcases hat with hat | hat
    · exact .inl (h.neo g hat).1
    · exact .inr (by omega)
  · exact ownsRow_kept (h.ent e he).2.2.1 hc3 (fun k hk e => e.elim ((h.ent _ he).2.2.2 k hk).2.2.2 ((h.ent _ he).2.2.2 k hk).2.1)
  · intro hv
    rcases hat with hat | hat
    · exact ((h.ent e he).2.2.2 g hv).2.2.2 hat
    · have := ownsRow_lt (h.ent e he).2.2.1 g hv
      omega
  · rw [hw3]; simpa [World.setCell] using hlt

theorem find_snoc (es : List Ent) (e : Ent) (x : Int) (hn : (es.find? (fun y => y.fn == e.fn)) = none) : (es ++ [e]).find? (fun y => y.fn == x) = if x = e.fn then some e else es.find? (fun y => y.fn == x) := by
  rw [List.find?_append]
  by_cases h : x = e.fn
  · subst h
    rw [if_pos rfl, hn]
    simp
  · rw [if_neg h]
    have : ([e].find? (fun y => y.fn == x)) = none := by
      rw [List.find?_eq_none]
      intro y hy
      rw [List.mem_singleton] at hy
      subst hy
      simp only [beq_iff_eq]
      exact fun e => h e.symm
    rw [this]
    simp

/-- behind all of it -/
theorem CSt.put_end {w4 w5 : World} {body : List InsR} {x vn : Value} (h : CSt w S c cap vo m n M es)
    (hb : w3.heap[c]? = some (.cells #[.int .i64 cap, vn, .map (some m)] 86 (0, 0)) ∧ Chg S w w3 ∧ MapIs w3 m n M ∧ w3.ownsRow 0 3 1 vn (es.length + 1) (ints (es.map Ent.fn ++ [fn])) ∧
      (S g ∨ w.heap.size ≤ g) ∧ g ≠ c ∧ g ≠ m ∧ (∀ e ∈ es, w3.ownsRow 0 44 3 e.val e.body.length (insCells e.body) ∧ e.val.ownBlock ≠ some g) ∧ g < w3.heap.size)
    (hvn : vn.ownBlock = some g) (hf : (Lit.int .i64 fn).wf = true) (hfn : getl (es.map Ent.told) fn = none) (hlen : (es.length : Int) < cap) (hbl : body.length ≤ 5864062014634)
    (hx1 : w4.ownsRow 0 44 3 x body.length (insCells body)) (hx2 : ∀ k, x.ownBlock = some k → w3.drew.heap.size ≤ k) (hx3 : Chg (fun _ => False) w3.drew w4) (hm5 : MapIs w5 m (n + 1) (fun y => if y = fn then some x else M y)) (hch5 : Chg (fun y => y = m) w4 w5) :
    CacheIs w5 (fun k => S k ∨ w.heap.size ≤ k) c cap (n + 1) (es.map Ent.told ++ [(fn, body)]) ∧ Chg S w w5 := by
  obtain ⟨b1, b2, b3, b4, b5, b6, b7, b8, b9⟩ := hb
  have hx3' : Chg (fun _ => False) w3 w4 := ((Chg.refl _ w3).drew).then hx3
  have hx2 : ∀ k, x.ownBlock = some k → w3.heap.size ≤ k := hx2
  have hcl := lt_of_heap b1
  have hml := b3.lt
  have hsz := b2.size
  have hcm : c ≠ m := fun e => h.hm.2 e.symm
  have hnone : es.find? (fun y => y.fn == fn) = none := by
    rw [getl_told] at hfn
    simpa using hfn
  refine ⟨⟨vn, m, fun y => if y = fn then some x else M y, es ++ [⟨fn, body, x⟩], ⟨.inl h.hc, hch5.heap (hx3'.heap b1 (fun x => x)) hcm, ?_, fun k hk => ?_, ⟨.inl h.hm.1, h.hm.2⟩, hm5, fun k hk => ?_, fun e he => ?_, ?_, h.capok.1, h.capok.2.1, ?_⟩, ?_⟩, ?_⟩
  · have := ownsRow_kept (ownsRow_kept b4 hx3' (fun _ _ x => x)) hch5 (fun k hk e => by rw [hvn] at hk; injection hk with hk; exact b7 (hk.trans e))
    simpa using this
  · rw [hvn] at hk
    injection hk with hk
    subst hk
    exact ⟨b5, b6, b7⟩
  · show (if k = fn then some x else M k) = _
    rw [find_snoc es ⟨fn, body, x⟩ k hnone]
    by_cases e : k = fn
    · rw [if_pos e, if_pos e]; rfl
    · rw [if_neg e, if_neg e]; exact h.maps k hk
  · rcases List.mem_append.1 he with he | he
    · obtain ⟨j1, j2, j3, j4⟩ := h.ent e he
      refine ⟨j1, j2, ownsRow_kept (ownsRow_kept (b8 e he).1 hx3' (fun _ _ x => x)) hch5 (fun k hk e => (j4 k hk).2.2.1 e), fun k hk => ⟨.inl (j4 k hk).1, (j4 k hk).2.1, (j4 k hk).2.2.1, ?_⟩⟩
      rw [hvn]
      intro e2
      injection e2 with e2
      exact (b8 e he).2 (by rw [hk, e2])
    · rw [List.mem_singleton] at he
      subst he
      refine ⟨hf, hbl, ownsRow_kept hx1 hch5 (fun k hk e => by have := hx2 k hk; omega), fun k hk => ?_⟩
      have hk := hx2 k hk
      refine ⟨.inr (by omega), by omega, by omega, ?_⟩
      rw [hvn]
      intro e2
      injection e2 with e2
      omega
  · rw [List.map_append, List.nodup_append]
    refine ⟨h.nodup, by simp, fun a ha b hb e => ?_⟩
    simp at hb
    obtain ⟨y, hy, rfl⟩ := List.mem_map.1 ha
    rw [List.find?_eq_none] at hnone
    exact hnone y hy (by simp [e, hb])
  · simp
    omega
  · simp [Ent.told]
  · exact (b2.trans hx3' (fun _ _ x => x) (fun _ _ x => x.elim)).trans hch5 (fun _ _ x => x) (fun k _ e => by rw [e]; exact h.hm.1)
end
/-- what Put tells, and leaves -/
def putv (cap : Int) (l : List (Int × List InsR)) (fn : Int) (body : List InsR) : Int × Bool × List (Int × List InsR) :=
  if (getl l fn).isSome then (0, false, l.filter (fun e => e.1 != fn) ++ [(fn, body)])
  else if (l.length : Int) = cap then ((l.map Prod.fst).headD 0, true, l.filter (fun e => e.1 != (l.map Prod.fst).headD 0) ++ [(fn, body)])
  else (0, false, l ++ [(fn, body)])

theorem getl_filter (l : List (Int × List InsR)) (fn k : Int) : getl (l.filter (fun e => e.1 != fn)) k = if k = fn then none else getl l k := by
  unfold getl
  rw [List.find?_filter]
  by_cases h : k = fn
  · rw [if_pos h, Option.map_eq_none_iff, List.find?_eq_none]
    intro x _
    simp [h]
  · rw [if_neg h]
    congr 2
    funext a
    by_cases e : a.1 = k
    · simp [e, h]
    · simp [e]
theorem getl_some_lt {l : List (Int × List InsR)} {fn : Int} (h : (getl l fn).isSome = true) : (l.filter (fun e => e.1 != fn)).length < l.length := by
  unfold getl at h
  rw [Option.isSome_map] at h
  obtain ⟨e, he⟩ := Option.isSome_iff_exists.1 h
  refine List.length_filter_lt_length_iff_exists.2 ⟨e, List.mem_of_find?_eq_some he, ?_⟩
  have := List.find?_some he
  simpa using this
theorem getl_head {l : List (Int × List InsR)} (h : 0 < l.length) : (getl l ((l.map Prod.fst).headD 0)).isSome = true := by
  cases l with
  | nil => simp at h
  | cons e l => simp [getl]

set_option maxHeartbeats 4000000 in
set_option maxRecDepth 100000 in
theorem cache_put_had {w : World} {S : Nat → Prop} {c : Nat} {cap : Int} {n : Nat} {l : List (Int × List InsR)} (h : CacheIs w S c cap n l) (fn : Int) (hf : (Lit.int .i64 fn).wf = true) (bv : Value) (body : List InsR) (hsrc : Src w bv body.length (insCells body)) (hns : (body.length = 0 ∧ insCells body = []) ∨ ∀ k, bv.ownBlock = some k → ¬ S k) (hbl : body.length ≤ 5864062014634) (hn : n ≤ 1048576)
    (hg : (getl l fn).isSome = true) :
    Calls Tryd.prog 35 #[.pointer (some ⟨c, 0, none⟩), .int .i64 fn, bv] w fun e w' => e = .returned (.tuple #[.int .i64 0, .bool false]) ∧ CacheIs w' (fun k => S k ∨ w.heap.size ≤ k) c cap (n + 1) (l.filter (fun e => e.1 != fn) ++ [(fn, body)]) ∧ Chg S w w' := by
  obtain ⟨i0, hi, hz0, hz1, hz2⟩ := info_parts infoInt
  have HSRC := Lib.hid hsrc
  have HNS := Lib.hid hns
  have HBL := Lib.hid hbl
  have HNM := Lib.hid hn
  have HH := Lib.hid h
  have hcap := h.capok
  have hc0 : w.drew.cell? ⟨c, 0, none⟩ = some (.int .i64 cap) := by
    obtain ⟨vo, m, M, es, h, _⟩ := h
    have := cell_of_block h.blk 0
    simpa using this
  have CD : Hid (Calls Tryd.prog 23 #[.pointer (some ⟨c, 0, none⟩), .int .i64 fn] w.drew fun e w' => e = .returned (.bool true) ∧ CacheIs w' S c cap n (l.filter (fun e => e.1 != fn)) ∧ Chg S w w') := Lib.hid ((cache_drop_any (h.kept ((Chg.refl (fun _ => False) _).drew) (fun _ _ x => x)) fn hf).mono (by rintro e w' ⟨rfl, h1, h2⟩; exact ⟨by rw [hg], h1, Chg.of_drew h2⟩))
  have HLT := Lib.hid (getl_some_lt hg)
  clear hg
  clear hsrc hns hbl hn h
  go_enter Tryd.func35, Tryd.ntmps35
  go_wp2_with fail
  refine wp_region_ord (S := fun w' => w'.cell? ⟨c, 0, none⟩ = some (.int .i64 cap)) (N := fun i => true) (by kernel_rfl) [(0, true), (1, true), (2, false), (3, true), (4, true), (5, true), (6, true), (7, true), (8, true), (9, true), (10, true), (11, true), (12, true)] (by kernel_rfl) ?_
  have hS0 := hc0
  iterate 2 (refine ord_look rfl hS0 rfl (by intro w hS; go_simp; with_reducible rfl) (fun c a w h => h) ?_; simp only [Act.put, List.setIfInBounds_toArray, List.set_cons_succ, List.set_cons_zero])
  refine ord_act rfl rfl (fun K hK => ?_)
  refine wp_call 23 _ _ Tryd.func23 rfl (by kernel_rfl) _ _ rfl #[.pointer (some ⟨c, 0, none⟩), .int .i64 fn] (by simp [Act.eval]) (R := fun x w1 => x = .bool true ∧ CacheIs w1 S c cap n (l.filter (fun e => e.1 != fn)) ∧ Chg S w w1) (calls_ret CD.out (by rintro e w1 ⟨rfl, h⟩; exact ⟨_, rfl, rfl, h⟩)) ?_
  rintro x w1 ⟨rfl, h1, hc01⟩
  have hS0 : w1.cell? ⟨c, 0, none⟩ = some (.int .i64 cap) := by
    obtain ⟨vo, m, M, es, h, _⟩ := h1
    have := cell_of_block h.blk 0
    simpa using this
  refine hK _ _ ⟨fun _ => hS0, ?_⟩
  clear hK K
  simp only [Act.put, List.setIfInBounds_toArray, List.set_cons_succ, List.set_cons_zero]
  iterate 2 (refine ord_look rfl hS0 rfl (by intro w hS; go_simp; with_reducible rfl) (fun c a w h => h) ?_; simp only [Act.put, List.setIfInBounds_toArray, List.set_cons_succ, List.set_cons_zero])
  iterate 7 (refine ord_skip rfl hS0 rfl (fun c a w h => h) ?_; simp only [Act.put, List.setIfInBounds_toArray, List.set_cons_succ, List.set_cons_zero])
  (refine ord_look rfl hS0 rfl (by intro w hS; go_simp; with_reducible rfl) (fun c a w h => h) ?_; simp only [Act.put, List.setIfInBounds_toArray, List.set_cons_succ, List.set_cons_zero])
  refine ord_end ?_
  have H1 := Lib.hid h1
  have HC01 := Lib.hid hc01
  have HFN : Hid (getl (l.filter (fun e => e.1 != fn)) fn = none) := Lib.hid (by rw [getl_filter, if_pos rfl])
  have HLN : Hid (((l.filter (fun e => e.1 != fn)).length : Int) < cap) := Lib.hid (by have := HLT.out; omega)
  clear h1 hc01 hS0 hc0 CD
  obtain ⟨vo, m, M, es, h1, hl1⟩ := H1.out
  have hfn : getl (es.map Ent.told) fn = none := by rw [← hl1]; exact HFN.out
  have hlen : (es.length : Int) < cap := by have := HLN.out; rw [hl1, List.length_map] at this; exact this
  have c1 := cell_of_block h1.blk 1
  simp at c1
  have f1 := frozen_of_block h1.blk 1
  have hcl := lt_of_heap h1.blk
  have hvc : vo.ownBlock ≠ some c := fun e => (h1.neo c e).2.1 rfl
  obtain ⟨A, cp0, hvo⟩ := (ownsRow_slice h1.own).2
  have hcap := h1.capok
  obtain ⟨k, hK⟩ : ∃ k, k = es.length := ⟨_, rfl⟩
  have hown := h1.own
  have hk32 : k ≤ 32 := by omega
  rw [← hK] at hown hvo
  subst hvo
  have HH1 := Lib.hid h1
  have HO := Lib.hid hown
  have HLL := Lib.hid (And.intro hl1 (And.intro hfn (And.intro hK hlen)))
  clear h1 hown hl1 hfn hK hcap hlen
  go_wp2_with (at_builtin; refine wpList_append_lies _ rfl _ _ _ rfl 0 3 i0 _ 1 8 Tryd.underlying58 hi hz0 hz1 hz2 rfl (by omega) (.slice A k cp0) k (ints (es.map Ent.fn)) rfl (HO.out.alloc _) ⟨w1.heap.size, 0, none⟩ 1 1 [.int .i64 fn] rfl rfl (World.news_of_block (cs := #[.int .i64 fn]) (t := 3) (fr := (0, 0)) (heap_new _ _)) (by simp [Value.oneCell']) (by omega) (by unfold maxLen; omega) (by omega) (by omega) (w1.heap.size + 1) (by simp) ?_; intro g cp w2 hown2 hgrow hat hlt; have k1 := (hgrow.cell_far ⟨c, 1, none⟩ (by simp; omega) (fun e => hvc e.symm)).trans (cell_alloc c1 _); have kf1 := ((hgrow.frozen_far ⟨c, 1, none⟩ (by simp; omega) (fun e => hvc e.symm)).trans (frozen_alloc hcl _)).trans f1)
  obtain ⟨w3, hw3⟩ : ∃ w3, w3 = w2.setCell ⟨c, 1, none⟩ (.slice (some ⟨g, 0, none⟩) (k + 1) cp) := ⟨_, rfl⟩
  rw [← hw3]
  have PB := Lib.hid (HH1.out.put_body hown2 hgrow hat hlt HLL.out.2.2.1 hw3)
  have hc2 := cell_of_block PB.out.1 2
  simp at hc2
  clear k1 kf1 c1 f1 hcl hvc hown2 hgrow hat hlt hw3
  go_wp2_with fail
  have hS0 : w3.drew.cell? ⟨c, 2, none⟩ = some (.map (some m)) := hc2
  refine wp_region_ord (S := fun w' => w'.cell? ⟨c, 2, none⟩ = some (.map (some m))) (N := fun i => i != 7) (by kernel_rfl) [(0, true), (1, true), (2, true), (3, true), (4, true), (5, true), (6, false), (7, false)] (by kernel_rfl) ?_
  iterate 6 (refine ord_look rfl hS0 rfl (by intro w hS; go_simp; with_reducible rfl) (fun c a w h => h) ?_; simp only [Act.put, List.setIfInBounds_toArray, List.set_cons_succ, List.set_cons_zero])
  refine ord_act rfl rfl (fun K hK => ?_)
  have hsrc : Src w3.drew bv body.length (insCells body) := HSRC.out.kept (HC01.out.then PB.out.2.1).drew HNS.out
  refine wp_call 15 _ _ Tryd.func15 rfl (by kernel_rfl) _ _ rfl #[bv] (by simp [Act.eval]) (R := fun x w1 => w1.ownsRow 0 44 3 x body.length (insCells body) ∧ (∀ k, x.ownBlock = some k → w3.drew.heap.size ≤ k) ∧ Chg (fun _ => False) w3.drew w1) (calls_ret (cloneIns_any hsrc (insCells_length _) (insCells_one _) HBL.out) (by rintro e w1 ⟨x, rfl, h⟩; exact ⟨_, rfl, h⟩)) ?_
  rintro x w4 ⟨hx1, hx2, hx3⟩
  have hc4 := hx3.cell hS0 (fun x => x)
  refine hK _ _ ⟨fun _ => hc4, ?_⟩
  clear hK K
  simp only [Act.put, List.setIfInBounds_toArray, List.set_cons_succ, List.set_cons_zero]
  obtain ⟨w5, hrun, hm5, hch5⟩ := (PB.out.2.2.1.kept ((Chg.refl (fun _ => False) w3).drew.then hx3) (fun x => x)).store fn hf x (by have := HNM.out; unfold maxLen; omega)
  have PE := Lib.hid (HH1.out.put_end PB.out rfl hf HLL.out.2.1 HLL.out.2.2.2 HBL.out hx1 hx2 hx3 hm5 hch5)
  clear hm5 hch5 hx1 hx2 hx3 hc4 hsrc hc2 hS0
  refine ord_act rfl rfl (fun K hK => ?_)
  go_simp
  refine hK _ _ ⟨fun h => absurd h (by decide), ?_⟩
  clear hK K
  refine ord_end ?_
  go_wp2_with fail
  go_ret2
  obtain ⟨p1, p2⟩ := PE.out
  rw [← HLL.out.1] at p1
  exact ⟨rfl, p1.mono (fun k hk => hk.imp id (fun hk => Nat.le_trans HC01.out.size hk)), HC01.out.then p2⟩

set_option maxHeartbeats 4000000 in
set_option maxRecDepth 100000 in
theorem cache_put_new {w : World} {S : Nat → Prop} {c : Nat} {cap : Int} {n : Nat} {l : List (Int × List InsR)} (h : CacheIs w S c cap n l) (fn : Int) (hf : (Lit.int .i64 fn).wf = true) (bv : Value) (body : List InsR) (hsrc : Src w bv body.length (insCells body)) (hns : (body.length = 0 ∧ insCells body = []) ∨ ∀ k, bv.ownBlock = some k → ¬ S k) (hbl : body.length ≤ 5864062014634) (hn : n ≤ 1048576)
    (hg : getl l fn = none) (hl : ¬ (l.length : Int) = cap) :
    Calls Tryd.prog 35 #[.pointer (some ⟨c, 0, none⟩), .int .i64 fn, bv] w fun e w' => e = .returned (.tuple #[.int .i64 0, .bool false]) ∧ CacheIs w' (fun k => S k ∨ w.heap.size ≤ k) c cap (n + 1) (l ++ [(fn, body)]) ∧ Chg S w w' := by
  obtain ⟨i0, hi, hz0, hz1, hz2⟩ := info_parts infoInt
  have HSRC := Lib.hid hsrc
  have HNS := Lib.hid hns
  have HBL := Lib.hid hbl
  have HNM := Lib.hid hn
  have HH := Lib.hid h
  have hcap := h.capok
  have hc0 : w.drew.cell? ⟨c, 0, none⟩ = some (.int .i64 cap) := by
    obtain ⟨vo, m, M, es, h, _⟩ := h
    have := cell_of_block h.blk 0
    simpa using this
  have CD : Hid (Calls Tryd.prog 23 #[.pointer (some ⟨c, 0, none⟩), .int .i64 fn] w.drew fun e w' => e = .returned (.bool false) ∧ CacheIs w' S c cap n l ∧ Chg S w w') := Lib.hid ((cache_drop_any (h.kept ((Chg.refl (fun _ => False) _).drew) (fun _ _ x => x)) fn hf).mono (by rintro e w' ⟨rfl, h1, h2⟩; rw [getl_none hg] at h1; exact ⟨by rw [hg]; rfl, h1, Chg.of_drew h2⟩))
  have HFN := Lib.hid hg
  have hll : (l.length : Int) < cap := by omega
  have HLN := Lib.hid hll
  obtain ⟨L, hL⟩ : ∃ L : Int, L = l.length := ⟨_, rfl⟩
  have HLE := Lib.hid hL
  have hne : ¬ L = cap := by omega
  clear hg hl hll hL
  clear hsrc hns hbl hn h
  go_enter Tryd.func35, Tryd.ntmps35
  go_wp2_with fail
  refine wp_region_ord (S := fun w' => w'.cell? ⟨c, 0, none⟩ = some (.int .i64 cap)) (N := fun i => true) (by kernel_rfl) [(0, true), (1, true), (2, false), (3, true), (4, true), (5, true), (7, true), (8, true), (9, true), (10, true), (6, false), (11, true), (12, true)] (by kernel_rfl) ?_
  have hS0 := hc0
  iterate 2 (refine ord_look rfl hS0 rfl (by intro w hS; go_simp; with_reducible rfl) (fun c a w h => h) ?_; simp only [Act.put, List.setIfInBounds_toArray, List.set_cons_succ, List.set_cons_zero])
  refine ord_act rfl rfl (fun K hK => ?_)
  refine wp_call 23 _ _ Tryd.func23 rfl (by kernel_rfl) _ _ rfl #[.pointer (some ⟨c, 0, none⟩), .int .i64 fn] (by simp [Act.eval]) (R := fun x w1 => x = .bool false ∧ CacheIs w1 S c cap n l ∧ Chg S w w1) (calls_ret CD.out (by rintro e w1 ⟨rfl, h⟩; exact ⟨_, rfl, rfl, h⟩)) ?_
  rintro x w1 ⟨rfl, h1, hc01⟩
  have hS0 : w1.cell? ⟨c, 0, none⟩ = some (.int .i64 cap) := by
    obtain ⟨vo, m, M, es, h, _⟩ := h1
    have := cell_of_block h.blk 0
    simpa using this
  refine hK _ _ ⟨fun _ => hS0, ?_⟩
  clear hK K
  simp only [Act.put, List.setIfInBounds_toArray, List.set_cons_succ, List.set_cons_zero]
  iterate 2 (refine ord_look rfl hS0 rfl (by intro w hS; go_simp; with_reducible rfl) (fun c a w h => h) ?_; simp only [Act.put, List.setIfInBounds_toArray, List.set_cons_succ, List.set_cons_zero])
  iterate 5 (refine ord_look rfl hS0 rfl (by intro w hS; go_simp; with_reducible rfl) (fun c a w h => h) ?_; simp only [Act.put, List.setIfInBounds_toArray, List.set_cons_succ, List.set_cons_zero])
  have CLN : Calls Tryd.prog 47 #[.pointer (some ⟨c, 0, none⟩)] w1 fun e w' => e = .returned (.int .i64 L) ∧ w' = w1 := by rw [HLE.out]; exact cache_len_any h1
  refine ord_act rfl rfl (fun K hK => ?_)
  refine wp_call 47 _ _ Tryd.func47 rfl (by kernel_rfl) _ _ rfl #[.pointer (some ⟨c, 0, none⟩)] (by simp [Act.eval]) (R := fun x w2 => x = .int .i64 L ∧ w2 = w1) (calls_ret CLN (by rintro e w2 ⟨rfl, h⟩; exact ⟨_, rfl, rfl, h⟩)) ?_
  rintro x w2 ⟨rfl, hw2⟩
  rw [hw2]
  clear hw2 w2
  refine hK _ _ ⟨fun _ => hS0, ?_⟩
  clear hK K
  simp only [Act.put, List.setIfInBounds_toArray, List.set_cons_succ, List.set_cons_zero]
  (refine ord_look rfl hS0 rfl (by intro w hS; go_simp; with_reducible rfl) (fun c a w h => h) ?_; simp only [Act.put, List.setIfInBounds_toArray, List.set_cons_succ, List.set_cons_zero])
  (refine ord_look rfl hS0 rfl (by intro w hS; go_simp; with_reducible rfl) (fun c a w h => h) ?_; simp only [Act.put, List.setIfInBounds_toArray, List.set_cons_succ, List.set_cons_zero])
  refine ord_end ?_
  have H1 := Lib.hid h1
  have HC01 := Lib.hid hc01
  clear h1 hc01 hS0 hc0 CD
  obtain ⟨vo, m, M, es, h1, hl1⟩ := H1.out
  have hfn : getl (es.map Ent.told) fn = none := by rw [← hl1]; exact HFN.out
  have hlen : (es.length : Int) < cap := by have := HLN.out; rw [hl1, List.length_map] at this; exact this
  have c1 := cell_of_block h1.blk 1
  simp at c1
  have f1 := frozen_of_block h1.blk 1
  have hcl := lt_of_heap h1.blk
  have hvc : vo.ownBlock ≠ some c := fun e => (h1.neo c e).2.1 rfl
  obtain ⟨A, cp0, hvo⟩ := (ownsRow_slice h1.own).2
  have hcap := h1.capok
  obtain ⟨k, hK⟩ : ∃ k, k = es.length := ⟨_, rfl⟩
  have hown := h1.own
  have hk32 : k ≤ 32 := by omega
  rw [← hK] at hown hvo
  subst hvo
  have HH1 := Lib.hid h1
  have HO := Lib.hid hown
  have HLL := Lib.hid (And.intro hl1 (And.intro hfn (And.intro hK hlen)))
  clear h1 hown hl1 hfn hK hcap hlen
  go_wp2_with (at_builtin; refine wpList_append_lies _ rfl _ _ _ rfl 0 3 i0 _ 1 8 Tryd.underlying58 hi hz0 hz1 hz2 rfl (by omega) (.slice A k cp0) k (ints (es.map Ent.fn)) rfl (HO.out.alloc _) ⟨w1.heap.size, 0, none⟩ 1 1 [.int .i64 fn] rfl rfl (World.news_of_block (cs := #[.int .i64 fn]) (t := 3) (fr := (0, 0)) (heap_new _ _)) (by simp [Value.oneCell']) (by omega) (by unfold maxLen; omega) (by omega) (by omega) (w1.heap.size + 1) (by simp) ?_; intro g cp w2 hown2 hgrow hat hlt; have k1 := (hgrow.cell_far ⟨c, 1, none⟩ (by simp; omega) (fun e => hvc e.symm)).trans (cell_alloc c1 _); have kf1 := ((hgrow.frozen_far ⟨c, 1, none⟩ (by simp; omega) (fun e => hvc e.symm)).trans (frozen_alloc hcl _)).trans f1)
  obtain ⟨w3, hw3⟩ : ∃ w3, w3 = w2.setCell ⟨c, 1, none⟩ (.slice (some ⟨g, 0, none⟩) (k + 1) cp) := ⟨_, rfl⟩
  rw [← hw3]
  have PB := Lib.hid (HH1.out.put_body hown2 hgrow hat hlt HLL.out.2.2.1 hw3)
  have hc2 := cell_of_block PB.out.1 2
  simp at hc2
  clear k1 kf1 c1 f1 hcl hvc hown2 hgrow hat hlt hw3
  go_wp2_with fail
  have hS0 : w3.drew.cell? ⟨c, 2, none⟩ = some (.map (some m)) := hc2
  refine wp_region_ord (S := fun w' => w'.cell? ⟨c, 2, none⟩ = some (.map (some m))) (N := fun i => i != 7) (by kernel_rfl) [(0, true), (1, true), (2, true), (3, true), (4, true), (5, true), (6, false), (7, false)] (by kernel_rfl) ?_
  iterate 6 (refine ord_look rfl hS0 rfl (by intro w hS; go_simp; with_reducible rfl) (fun c a w h => h) ?_; simp only [Act.put, List.setIfInBounds_toArray, List.set_cons_succ, List.set_cons_zero])
  refine ord_act rfl rfl (fun K hK => ?_)
  have hsrc : Src w3.drew bv body.length (insCells body) := HSRC.out.kept (HC01.out.then PB.out.2.1).drew HNS.out
  refine wp_call 15 _ _ Tryd.func15 rfl (by kernel_rfl) _ _ rfl #[bv] (by simp [Act.eval]) (R := fun x w1 => w1.ownsRow 0 44 3 x body.length (insCells body) ∧ (∀ k, x.ownBlock = some k → w3.drew.heap.size ≤ k) ∧ Chg (fun _ => False) w3.drew w1) (calls_ret (cloneIns_any hsrc (insCells_length _) (insCells_one _) HBL.out) (by rintro e w1 ⟨x, rfl, h⟩; exact ⟨_, rfl, h⟩)) ?_
  rintro x w4 ⟨hx1, hx2, hx3⟩
  have hc4 := hx3.cell hS0 (fun x => x)
  refine hK _ _ ⟨fun _ => hc4, ?_⟩
  clear hK K
  simp only [Act.put, List.setIfInBounds_toArray, List.set_cons_succ, List.set_cons_zero]
  obtain ⟨w5, hrun, hm5, hch5⟩ := (PB.out.2.2.1.kept ((Chg.refl (fun _ => False) w3).drew.then hx3) (fun x => x)).store fn hf x (by have := HNM.out; unfold maxLen; omega)
  have PE := Lib.hid (HH1.out.put_end PB.out rfl hf HLL.out.2.1 HLL.out.2.2.2 HBL.out hx1 hx2 hx3 hm5 hch5)
  clear hm5 hch5 hx1 hx2 hx3 hc4 hsrc hc2 hS0
  refine ord_act rfl rfl (fun K hK => ?_)
  go_simp
  refine hK _ _ ⟨fun h => absurd h (by decide), ?_⟩
  clear hK K
  refine ord_end ?_
  go_wp2_with fail
  go_ret2
  obtain ⟨p1, p2⟩ := PE.out
  rw [← HLL.out.1] at p1
  exact ⟨rfl, p1.mono (fun k hk => hk.imp id (fun hk => Nat.le_trans HC01.out.size hk)), HC01.out.then p2⟩

set_option maxHeartbeats 4000000 in
set_option maxRecDepth 100000 in
theorem cache_put_full {w : World} {S : Nat → Prop} {c : Nat} {cap : Int} {n : Nat} {l : List (Int × List InsR)} (h : CacheIs w S c cap n l) (fn : Int) (hf : (Lit.int .i64 fn).wf = true) (bv : Value) (body : List InsR) (hsrc : Src w bv body.length (insCells body)) (hns : (body.length = 0 ∧ insCells body = []) ∨ ∀ k, bv.ownBlock = some k → ¬ S k) (hbl : body.length ≤ 5864062014634) (hn : n ≤ 1048576)
    (hg : getl l fn = none) (hl : (l.length : Int) = cap) (gn : Int) (hgn : gn = (l.map Prod.fst).headD 0) :
    Calls Tryd.prog 35 #[.pointer (some ⟨c, 0, none⟩), .int .i64 fn, bv] w fun e w' => e = .returned (.tuple #[.int .i64 gn, .bool true]) ∧ CacheIs w' (fun k => S k ∨ w.heap.size ≤ k) c cap (n + 1) (l.filter (fun e => e.1 != gn) ++ [(fn, body)]) ∧ Chg S w w' := by
  obtain ⟨i0, hi, hz0, hz1, hz2⟩ := info_parts infoInt
  have HSRC := Lib.hid hsrc
  have HNS := Lib.hid hns
  have HBL := Lib.hid hbl
  have HNM := Lib.hid hn
  have HH := Lib.hid h
  have hcap := h.capok
  have hc0 : w.drew.cell? ⟨c, 0, none⟩ = some (.int .i64 cap) := by
    obtain ⟨vo, m, M, es, h, _⟩ := h
    have := cell_of_block h.blk 0
    simpa using this
  have CD : Hid (Calls Tryd.prog 23 #[.pointer (some ⟨c, 0, none⟩), .int .i64 fn] w.drew fun e w' => e = .returned (.bool false) ∧ CacheIs w' S c cap n l ∧ Chg S w w') := Lib.hid ((cache_drop_any (h.kept ((Chg.refl (fun _ => False) _).drew) (fun _ _ x => x)) fn hf).mono (by rintro e w' ⟨rfl, h1, h2⟩; rw [getl_none hg] at h1; exact ⟨by rw [hg]; rfl, h1, Chg.of_drew h2⟩))
  have hpos : 0 < l.length := by omega
  have HHD := Lib.hid (getl_head hpos)
  rw [← hgn] at HHD
  have HGE := Lib.hid hgn
  clear hgn
  have HG0 := Lib.hid hg
  have HLC := Lib.hid hl
  clear hg hl
  clear hsrc hns hbl hn h
  go_enter Tryd.func35, Tryd.ntmps35
  go_wp2_with fail
  refine wp_region_ord (S := fun w' => w'.cell? ⟨c, 0, none⟩ = some (.int .i64 cap)) (N := fun i => true) (by kernel_rfl) [(0, true), (1, true), (2, false), (3, true), (4, true), (5, true), (7, true), (8, true), (9, true), (10, true), (6, false), (11, true), (12, true)] (by kernel_rfl) ?_
  have hS0 := hc0
  iterate 2 (refine ord_look rfl hS0 rfl (by intro w hS; go_simp; with_reducible rfl) (fun c a w h => h) ?_; simp only [Act.put, List.setIfInBounds_toArray, List.set_cons_succ, List.set_cons_zero])
  refine ord_act rfl rfl (fun K hK => ?_)
  refine wp_call 23 _ _ Tryd.func23 rfl (by kernel_rfl) _ _ rfl #[.pointer (some ⟨c, 0, none⟩), .int .i64 fn] (by simp [Act.eval]) (R := fun x w1 => x = .bool false ∧ CacheIs w1 S c cap n l ∧ Chg S w w1) (calls_ret CD.out (by rintro e w1 ⟨rfl, h⟩; exact ⟨_, rfl, rfl, h⟩)) ?_
  rintro x w1 ⟨rfl, h1, hc01⟩
  have hS0 : w1.cell? ⟨c, 0, none⟩ = some (.int .i64 cap) := by
    obtain ⟨vo, m, M, es, h, _⟩ := h1
    have := cell_of_block h.blk 0
    simpa using this
  refine hK _ _ ⟨fun _ => hS0, ?_⟩
  clear hK K
  simp only [Act.put, List.setIfInBounds_toArray, List.set_cons_succ, List.set_cons_zero]
  iterate 2 (refine ord_look rfl hS0 rfl (by intro w hS; go_simp; with_reducible rfl) (fun c a w h => h) ?_; simp only [Act.put, List.setIfInBounds_toArray, List.set_cons_succ, List.set_cons_zero])
  iterate 5 (refine ord_look rfl hS0 rfl (by intro w hS; go_simp; with_reducible rfl) (fun c a w h => h) ?_; simp only [Act.put, List.setIfInBounds_toArray, List.set_cons_succ, List.set_cons_zero])
  have CLN : Calls Tryd.prog 47 #[.pointer (some ⟨c, 0, none⟩)] w1 fun e w' => e = .returned (.int .i64 cap) ∧ w' = w1 := by rw [← HLC.out]; exact cache_len_any h1
  refine ord_act rfl rfl (fun K hK => ?_)
  refine wp_call 47 _ _ Tryd.func47 rfl (by kernel_rfl) _ _ rfl #[.pointer (some ⟨c, 0, none⟩)] (by simp [Act.eval]) (R := fun x w2 => x = .int .i64 cap ∧ w2 = w1) (calls_ret CLN (by rintro e w2 ⟨rfl, h⟩; exact ⟨_, rfl, rfl, h⟩)) ?_
  rintro x w2 ⟨rfl, hw2⟩
  rw [hw2]
  clear hw2 w2
  refine hK _ _ ⟨fun _ => hS0, ?_⟩
  clear hK K
  simp only [Act.put, List.setIfInBounds_toArray, List.set_cons_succ, List.set_cons_zero]
  (refine ord_look rfl hS0 rfl (by intro w hS; go_simp; with_reducible rfl) (fun c a w h => h) ?_; simp only [Act.put, List.setIfInBounds_toArray, List.set_cons_succ, List.set_cons_zero])
  (refine ord_look rfl hS0 rfl (by intro w hS; go_simp; with_reducible rfl) (fun c a w h => h) ?_; simp only [Act.put, List.setIfInBounds_toArray, List.set_cons_succ, List.set_cons_zero])
  refine ord_end ?_
  clear hS0 hc0 CD
  have hgn := HGE.out
  have hwfg : (Lit.int .i64 gn).wf = true ∧ ∃ A cp, w1.cell? ⟨c, 1, none⟩ = some (.slice (some ⟨A, 0, none⟩) l.length cp) ∧ w1.cell? ⟨A, 0, none⟩ = some (.int .i64 gn) := by
    obtain ⟨vo, m, M, es, h2, e⟩ := h1
    have c1 := cell_of_block h2.blk 1
    simp at c1
    obtain ⟨A, cp, e2, _, _, hc⟩ := ownsRow_get h2.own 0 (by rw [e, List.length_map] at hpos; exact hpos)
    have hmap : (es.map Ent.told).map Prod.fst = es.map Ent.fn := by rw [List.map_map]; rfl
    cases es with
    | nil => rw [e] at hpos; simp at hpos
    | cons y ys =>
      have hy : gn = y.fn := by rw [hgn, e, hmap]; rfl
      refine ⟨by rw [hy]; exact (h2.ent y (by simp)).1, A, cp, ?_, hc _ (by rw [hy]; rfl)⟩
      rw [c1, e2, e, List.length_map]
  obtain ⟨hwg, A, cp, hc1, hca⟩ := hwfg
  have hln : l.length ≤ 9223372036854775807 := by omega
  have HGN := Lib.hid hgn
  have H0 := Lib.hid h1
  have HC00 := Lib.hid hc01
  have HP := Lib.hid hpos
  have HCAP := Lib.hid hcap
  generalize hql : l.length = q at hc1 hpos hln
  have HQL := Lib.hid hql
  clear hgn h1 hc01 hcap hql
  go_wp2_with fail
  refine (cache_drop_any H0.out gn hwg).mono ?_
  rintro e w0 ⟨rfl, h1, hc01⟩
  clear hc1 hca hwg hpos hln
  rw [HHD.out]
  have H1 := Lib.hid h1
  have HC01 := Lib.hid (HC00.out.then hc01)
  have HFN : Hid (getl (l.filter (fun e => e.1 != gn)) fn = none) := Lib.hid (by rw [getl_filter]; by_cases e : fn = gn; rw [if_pos e]; rw [if_neg e]; exact HG0.out)
  have HLN : Hid (((l.filter (fun e => e.1 != gn)).length : Int) < cap) := Lib.hid (by have := getl_some_lt HHD.out; have := HLC.out; omega)
  have hcap := HCAP.out
  clear h1 hc01
  obtain ⟨vo, m, M, es, h1, hl1⟩ := H1.out
  have hfn : getl (es.map Ent.told) fn = none := by rw [← hl1]; exact HFN.out
  have hlen : (es.length : Int) < cap := by have := HLN.out; rw [hl1, List.length_map] at this; exact this
  have c1 := cell_of_block h1.blk 1
  simp at c1
  have f1 := frozen_of_block h1.blk 1
  have hcl := lt_of_heap h1.blk
  have hvc : vo.ownBlock ≠ some c := fun e => (h1.neo c e).2.1 rfl
  obtain ⟨A, cp0, hvo⟩ := (ownsRow_slice h1.own).2
  have hcap := h1.capok
  obtain ⟨k, hK⟩ : ∃ k, k = es.length := ⟨_, rfl⟩
  have hown := h1.own
  have hk32 : k ≤ 32 := by omega
  rw [← hK] at hown hvo
  subst hvo
  have HH1 := Lib.hid h1
  have HO := Lib.hid hown
  have HLL := Lib.hid (And.intro hl1 (And.intro hfn (And.intro hK hlen)))
  clear h1 hown hl1 hfn hK hcap hlen
  go_wp2_with (at_builtin; refine wpList_append_lies _ rfl _ _ _ rfl 0 3 i0 _ 1 8 Tryd.underlying58 hi hz0 hz1 hz2 rfl (by omega) (.slice A k cp0) k (ints (es.map Ent.fn)) rfl (HO.out.alloc _) ⟨w0.heap.size, 0, none⟩ 1 1 [.int .i64 fn] rfl rfl (World.news_of_block (cs := #[.int .i64 fn]) (t := 3) (fr := (0, 0)) (heap_new _ _)) (by simp [Value.oneCell']) (by omega) (by unfold maxLen; omega) (by omega) (by omega) (w0.heap.size + 1) (by simp) ?_; intro g cp w2 hown2 hgrow hat hlt; have k1 := (hgrow.cell_far ⟨c, 1, none⟩ (by simp; omega) (fun e => hvc e.symm)).trans (cell_alloc c1 _); have kf1 := ((hgrow.frozen_far ⟨c, 1, none⟩ (by simp; omega) (fun e => hvc e.symm)).trans (frozen_alloc hcl _)).trans f1)
  obtain ⟨w3, hw3⟩ : ∃ w3, w3 = w2.setCell ⟨c, 1, none⟩ (.slice (some ⟨g, 0, none⟩) (k + 1) cp) := ⟨_, rfl⟩
  rw [← hw3]
  have PB := Lib.hid (HH1.out.put_body hown2 hgrow hat hlt HLL.out.2.2.1 hw3)
  have hc2 := cell_of_block PB.out.1 2
  simp at hc2
  clear k1 kf1 c1 f1 hcl hvc hown2 hgrow hat hlt hw3
  go_wp2_with fail
  have hS0 : w3.drew.cell? ⟨c, 2, none⟩ = some (.map (some m)) := hc2
  refine wp_region_ord (S := fun w' => w'.cell? ⟨c, 2, none⟩ = some (.map (some m))) (N := fun i => i != 7) (by kernel_rfl) [(0, true), (1, true), (2, true), (3, true), (4, true), (5, true), (6, false), (7, false)] (by kernel_rfl) ?_
  iterate 6 (refine ord_look rfl hS0 rfl (by intro w hS; go_simp; with_reducible rfl) (fun c a w h => h) ?_; simp only [Act.put, List.setIfInBounds_toArray, List.set_cons_succ, List.set_cons_zero])
  refine ord_act rfl rfl (fun K hK => ?_)
  have hsrc : Src w3.drew bv body.length (insCells body) := HSRC.out.kept (HC01.out.then PB.out.2.1).drew HNS.out
  refine wp_call 15 _ _ Tryd.func15 rfl (by kernel_rfl) _ _ rfl #[bv] (by simp [Act.eval]) (R := fun x w0 => w0.ownsRow 0 44 3 x body.length (insCells body) ∧ (∀ k, x.ownBlock = some k → w3.drew.heap.size ≤ k) ∧ Chg (fun _ => False) w3.drew w0) (calls_ret (cloneIns_any hsrc (insCells_length _) (insCells_one _) HBL.out) (by rintro e w0 ⟨x, rfl, h⟩; exact ⟨_, rfl, h⟩)) ?_
  rintro x w4 ⟨hx1, hx2, hx3⟩
  have hc4 := hx3.cell hS0 (fun x => x)
  refine hK _ _ ⟨fun _ => hc4, ?_⟩
  clear hK K
  simp only [Act.put, List.setIfInBounds_toArray, List.set_cons_succ, List.set_cons_zero]
  obtain ⟨w5, hrun, hm5, hch5⟩ := (PB.out.2.2.1.kept ((Chg.refl (fun _ => False) w3).drew.then hx3) (fun x => x)).store fn hf x (by have := HNM.out; unfold maxLen; omega)
  have PE := Lib.hid (HH1.out.put_end PB.out rfl hf HLL.out.2.1 HLL.out.2.2.2 HBL.out hx1 hx2 hx3 hm5 hch5)
  clear hm5 hch5 hx1 hx2 hx3 hc4 hsrc hc2 hS0
  refine ord_act rfl rfl (fun K hK => ?_)
  go_simp
  refine hK _ _ ⟨fun h => absurd h (by decide), ?_⟩
  clear hK K
  refine ord_end ?_
  go_wp2_with fail
  go_ret2
  obtain ⟨p1, p2⟩ := PE.out
  rw [← HLL.out.1] at p1
  exact ⟨rfl, p1.mono (fun k hk => hk.imp id (fun hk => Nat.le_trans HC01.out.size hk)), HC01.out.then p2⟩

theorem cache_put_any {w : World} {S : Nat → Prop} {c : Nat} {cap : Int} {n : Nat} {l : List (Int × List InsR)} (h : CacheIs w S c cap n l) (fn : Int) (hf : (Lit.int .i64 fn).wf = true) (bv : Value) (body : List InsR) (hsrc : Src w bv body.length (insCells body)) (hns : (body.length = 0 ∧ insCells body = []) ∨ ∀ k, bv.ownBlock = some k → ¬ S k) (hbl : body.length ≤ 5864062014634) (hn : n ≤ 1048576) :
    Calls Tryd.prog 35 #[.pointer (some ⟨c, 0, none⟩), .int .i64 fn, bv] w fun e w' => e = .returned (.tuple #[.int .i64 (putv cap l fn body).1, .bool (putv cap l fn body).2.1]) ∧ CacheIs w' (fun k => S k ∨ w.heap.size ≤ k) c cap (n + 1) (putv cap l fn body).2.2 ∧ Chg S w w' := by
  unfold putv
  by_cases h1 : (getl l fn).isSome = true
  · rw [if_pos h1]
    exact cache_put_had h fn hf bv body hsrc hns hbl hn h1
  · rw [if_neg h1]
    have h1 : getl l fn = none := by simpa using h1
    by_cases h2 : (l.length : Int) = cap
    · rw [if_pos h2]
      exact cache_put_full h fn hf bv body hsrc hns hbl hn h1 h2 _ rfl
    · rw [if_neg h2]
      exact cache_put_new h fn hf bv body hsrc hns hbl hn h1 h2
end Go.Proofs.YtgiegkacilfofabDoor
