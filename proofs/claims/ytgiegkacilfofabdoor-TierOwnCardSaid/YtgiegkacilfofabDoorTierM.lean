/- tier: New, its plain parts. -/
import Derived.Test.YtgiegkacilfofabDoorG19
namespace Go.Proofs.YtgiegkacilfofabDoor
set_option linter.unusedVariables false
set_option linter.unusedSimpArgs false
open Go.RowKit Go.Conc

theorem infoI64b : (Tryd.prog.info? 2).map (·.bytes) = some 8 := by kernel_rfl
theorem mkPicks (n : Nat) (hn : n ≤ 1048576) (w : World) : (Instr.makeChan 51 (.int .i64 (n : Int))).run Tryd.prog w = .ok (.chan (some w.heap.size)) (w.alloc (.chan n #[] false 0 0 false)) := by
  obtain ⟨i, hi, hb⟩ := Option.map_eq_some_iff.1 infoI64b
  simpa using run_makeChan (P := Tryd.prog) (w := w) Tryd.underlying51 hi .i64 n (by omega) (by rw [hb]; omega)
theorem gmap_made (w : World) : GMap (w.alloc (.map #[] 0)) w.heap.size 0 (fun _ => none) := GMapI.made w
theorem GMap.kept {w w' : World} {T : Nat → Prop} {b n : Nat} {M : Int → Option (Nat × Int)} (h : GMap w b n M) (hc : Chg T w w') (hn : ¬ T b) : GMap w' b n M := GMapI.kept h hc hn
/-- a manager with nothing in it yet -/
structure N0 (w1 wx : World) (cap : Int) (n m c mp ch : Nat) : Prop where
  bel : Below w1.heap.size w1 wx
  box : wx.heap[m]? = some (.cells #[.pointer (some ⟨c, 0, none⟩), .slice none 0 0, .slice none 0 0, .chan (some ch), .pointer none, .map (some mp), .slice none 0 0] 55 (0, 0))
  cache : ∃ S : Nat → Prop, CacheIs wx S c cap 0 [] ∧ ∀ k, S k → w1.heap.size ≤ k ∧ k < wx.heap.size ∧ k ≠ m ∧ k ≠ mp ∧ k ≠ ch
  map : GMap wx mp 0 (fun _ => none)
  chan : wx.heap[ch]? = some (.chan n #[] false 0 0 false)
  lo : w1.heap.size ≤ m ∧ w1.heap.size ≤ mp ∧ w1.heap.size ≤ ch
  ne : m ≠ mp ∧ m ≠ ch ∧ mp ≠ ch

/-- a row of something has grown in a field of the manager: `D` tells of its cells in any later world where its own blocks are as they were -/
structure N1 (D : World → List Value → Prop) (t : TypeId) (s : Nat) (wH wr : World) (m : Nat) (V : Value) (n : Nat) (xs : List Value) : Prop where
  chg : Chg (fun k => k = m) wH wr
  row : wr.ownsRow 0 t s V n xs
  far : ∀ k, V.ownBlock = some k → wH.heap.size ≤ k
  all : ∀ w', Chg (fun k => k < wH.heap.size ∨ V.ownBlock = some k) wr w' → D w' xs
theorem N1.start {D : World → List Value → Prop} {t : TypeId} {s : Nat} {wH : World} {m : Nat} (h : ∀ w', D w' []) : N1 D t s wH wH m (.slice none 0 0) 0 [] :=
  ⟨Chg.refl _ _, World.ownsRow_nil _ _ _ _, (fun k h => by cases h), fun w' _ => h w'⟩
/-- one more: its own memory (block b of V2) was laid anew, then the row grew (w5), then the manager was told of it -/
theorem N1.step {D D' : World → List Value → Prop} {t : TypeId} {s : Nat} {wH wr wa wx w5 : World} {m : Nat} {V : Value} {n : Nat} {xs ys : List Value} {g5 cap5 n5 : Nat} {u : Value} (h : N1 D t s wH wr m V n xs) (hm : m < wH.heap.size)
    (hb : Below wr.heap.size wr wa) (hb2 : Below wa.heap.size wa wx)
    (hown : w5.ownsRow 0 t s (.slice (some ⟨g5, 0, none⟩) n5 cap5) n5 (xs ++ ys)) (hgrow : Chg (fun k => V.ownBlock = some k) wx w5) (hat : V.ownBlock = some g5 ∨ g5 = wx.heap.size ∨ wa.heap.size ≤ g5)
    (fld : Nat) (hnew : ∀ w', Chg (fun k => k < wr.heap.size ∨ wa.heap.size ≤ k) wa w' → D w' xs → D' w' (xs ++ ys)) :
    N1 D' t s wH (w5.setCell ⟨m, fld, none⟩ u) m (.slice (some ⟨g5, 0, none⟩) n5 cap5) n5 (xs ++ ys) := by
  have hs := h.chg.size
  have hV : ∀ k, V.ownBlock = some k → wH.heap.size ≤ k ∧ k < wr.heap.size := fun k hk => ⟨h.far k hk, ownsRow_lt h.row k hk⟩
  have hs1 := hb.size
  have hs2 := hb2.size
  have hg : V.ownBlock = some g5 ∨ wa.heap.size ≤ g5 := hat.elim .inl (fun e => .inr (e.elim (fun e => by omega) id))
  have hgm : g5 ≠ m := fun e => by
    rcases hg with e2 | e2
    · have := hV _ e2; omega
    · omega
  have hset : Chg (fun k => k = m) w5 (w5.setCell ⟨m, fld, none⟩ u) := Chg.set_cell (w := w5) ⟨m, fld, none⟩ _
  have c1 : Chg (fun k => V.ownBlock = some k) wr wx := ((Below.chg hb).trans (Below.chg hb2) (T := fun k => V.ownBlock = some k) (fun _ _ x => x.elim) (fun _ _ x => x.elim))
  have c2 : Chg (fun k => V.ownBlock = some k ∨ k = m) wr (w5.setCell ⟨m, fld, none⟩ u) := (c1.then hgrow).trans hset (fun _ _ x => .inl x) (fun _ _ x => .inr x)
  refine ⟨h.chg.trans c2 (fun _ _ x => x) (fun i hi x => x.elim (fun x => by have := h.far i x; omega) id), ownsRow_kept hown hset (fun k hk e => by
    have hk : some g5 = some k := hk
    injection hk with hk
    exact hgm (hk.trans e)), fun k hk => by
    have hk : some g5 = some k := hk
    injection hk with hk
    subst hk
    rcases hg with e | e
    · exact h.far _ e
    · omega, fun w' hc => ?_⟩
  have hc : Chg (fun k => k < wH.heap.size ∨ k = g5) (w5.setCell ⟨m, fld, none⟩ u) w' := hc.mono (fun i _ x => x.imp id (fun x => by
    have hk : some g5 = some i := x
    injection hk with hk
    exact hk.symm))
  refine hnew w' ?_ (h.all w' (c2.trans hc (fun i hi x => x.elim .inr (fun x => .inl (by omega))) (fun i hi x => x.elim .inl (fun x => by
    rcases hg with e | e
    · exact .inr (by rw [e, x])
    · omega))))
  have c3 : Chg (fun k => k < wr.heap.size ∨ wa.heap.size ≤ k) wa (w5.setCell ⟨m, fld, none⟩ u) := (((Below.chg hb2).trans hgrow (T := fun k => V.ownBlock = some k) (fun _ _ x => x.elim) (fun _ _ x => x)).trans hset (fun i hi x => .inl (hV i x).2) (fun i hi x => .inl (by omega)))
  exact c3.trans hc (fun _ _ x => x) (fun i hi x => x.elim (fun x => .inl (by omega)) (fun x => by
    rcases hg with e | e
    · exact .inl (by rw [x]; exact (hV _ e).2)
    · exact .inr (by omega)))
theorem fnCells_nil (w : World) : FnCells w [] [] := fun j f hf => by simp at hf
/-- the functions' step -/
theorem fn_new {wr wa : World} {fs : List FnR} {xs : List Value} {f : FnR} {A : Option Addr} {c : Nat} (hl : xs.length = fs.length * 5) (hs : Src wa (.slice A f.l.length c) f.l.length (insCells f.l)) (hb : ∀ k, (Value.slice A f.l.length c).ownBlock = some k → wr.heap.size ≤ k ∧ k < wa.heap.size) :
    ∀ w', Chg (fun k => k < wr.heap.size ∨ wa.heap.size ≤ k) wa w' → FnCells w' fs xs → FnCells w' (fs ++ [f]) (xs ++ [.string f.nm, .int .i64 f.ps, .int .i64 f.vs, .int .i64 f.ar, .slice A f.l.length c]) := fun w' hc h =>
  FnCells.snoc h hl (hs.kept hc (.inr fun k hk e => by have := hb k hk; omega))

def bools (l : List Bool) : List Value := l.map Value.bool
theorem bools_length (l : List Bool) : (bools l).length = l.length := by simp [bools]
theorem bools_one (l : List Bool) : ∀ u ∈ bools l, u.oneCell' = true := fun u hu => by
  unfold bools at hu
  obtain ⟨x, _, rfl⟩ := List.mem_map.1 hu
  rfl
/-- the cells of a row of rows of truth values -/
def PubCells (w : World) (l : List (List Bool)) (xs : List Value) : Prop :=
  ∀ (j : Nat) r, l[j]? = some r → ∃ V, xs[j]? = some V ∧ BoolRow w V r
theorem pubCells_nil (w : World) : PubCells w [] [] := fun j f hf => by simp at hf
theorem boolRow_of {w : World} {V : Value} {t : TypeId} {l : List Bool} (h : w.ownsRow 0 t 1 V l.length (bools l)) : BoolRow w V l := by
  rcases h.2 with ⟨rfl, h0⟩ | ⟨g, cap, cur, rfl, hb, hh, h1, h2, h3, h4⟩
  · exact ⟨none, 0, by rw [h0], by omega, by simp [maxLen], fun h => by omega⟩
  · refine ⟨_, cap, rfl, h1, h2, fun _ => ⟨g, 0, rfl, fun j x hx => ?_⟩⟩
    have hj := (List.getElem?_eq_some_iff.1 hx).1
    rw [Nat.zero_add, cell_of_block hh j]
    have h5 : (bools l)[j]? = some (.bool x) := by simp [bools, hx]
    rw [← h4, List.getElem?_take, if_pos (by omega), Array.getElem?_toList] at h5
    exact h5
theorem pub_new {wr wa : World} {l : List (List Bool)} {xs : List Value} {r : List Bool} {V : Value} {t : TypeId} (hl : xs.length = l.length) (hs : wa.ownsRow 0 t 1 V r.length (bools r)) (hb : ∀ k, V.ownBlock = some k → wr.heap.size ≤ k ∧ k < wa.heap.size) :
    ∀ w', Chg (fun k => k < wr.heap.size ∨ wa.heap.size ≤ k) wa w' → PubCells w' l xs → PubCells w' (l ++ [r]) (xs ++ [V]) := fun w' hc h j g hg => by
  by_cases hj : j < l.length
  · rw [List.getElem?_append_left hj] at hg
    obtain ⟨V2, h1, h2⟩ := h j g hg
    exact ⟨V2, by rw [List.getElem?_append_left (by omega)]; exact h1, h2⟩
  · rw [List.getElem?_append_right (by omega)] at hg
    obtain ⟨rfl, rfl⟩ : j = l.length ∧ g = r := by
      have h1 : j - l.length = 0 := by
        have := (List.getElem?_eq_some_iff.1 hg).1
        simp at this
        omega
      rw [h1] at hg
      injection hg with hg
      exact ⟨by omega, hg.symm⟩
    exact ⟨V, by rw [List.getElem?_append_right (by omega), hl]; simp, boolRow_of (ownsRow_kept hs hc (fun k hk e => by have := hb k hk; omega))⟩
theorem pubIs_of {w : World} {V : Value} {l : List (List Bool)} {xs : List Value} {t : TypeId} (h : w.ownsRow 0 t 1 V l.length xs) (hx : PubCells w l xs) : PubIs w V l := by
  rcases h.2 with ⟨rfl, h0⟩ | ⟨g, cap, cur, rfl, hb, hh, h1, h2, h3, h4⟩
  · exact ⟨none, 0, by rw [h0], by omega, by simp [maxLen], fun h => by omega⟩
  · refine ⟨_, cap, rfl, h1, h2, fun _ => ⟨g, 0, rfl, fun j r hr => ?_⟩⟩
    have hj := (List.getElem?_eq_some_iff.1 hr).1
    obtain ⟨V2, e, hv⟩ := hx j r hr
    refine ⟨V2, ?_, hv⟩
    rw [Nat.zero_add, cell_of_block hh j]
    rw [← h4, List.getElem?_take, if_pos (by omega), Array.getElem?_toList] at e
    exact e
theorem cell_lt {w : World} {b off : Nat} {u : Value} (h : w.cell? ⟨b, off, none⟩ = some u) : b < w.heap.size := by
  by_cases hb : b < w.heap.size
  · exact hb
  · unfold World.cell? at h
    rw [show w.heap[(⟨b, off, none⟩ : Addr).block]? = none from Array.getElem?_eq_none (by show w.heap.size ≤ b; omega)] at h
    simp at h
theorem boolRow_src {w : World} {V : Value} {l : List Bool} (h : BoolRow w V l) : Src w V l.length (bools l) := by
  obtain ⟨A, c, rfl, h1, h2, h3⟩ := h
  by_cases h0 : 0 < l.length
  · obtain ⟨b, off, rfl, hx⟩ := h3 h0
    refine .inr ⟨b, off, c, rfl, cell_lt (hx 0 l[0] (List.getElem?_eq_getElem h0)), h1, by omega, fun j u hu => ?_⟩
    unfold bools at hu
    rw [List.getElem?_map] at hu
    obtain ⟨x, e1, e2⟩ := Option.map_eq_some_iff.1 hu
    rw [← e2]
    exact hx j x e1
  · have e : l = [] := List.eq_nil_of_length_eq_zero (by omega)
    subst e
    exact .inl ⟨⟨A, c, rfl⟩, rfl, rfl⟩
theorem boolRow_keep {w w' : World} {V : Value} {l : List Bool} (h : BoolRow w V l) (hb : Below w.heap.size w w') : BoolRow w' V l := by
  obtain ⟨A, c, e, h1, h2, h3⟩ := h
  refine ⟨A, c, e, h1, h2, fun h0 => ?_⟩
  obtain ⟨b, off, e2, h4⟩ := h3 h0
  exact ⟨b, off, e2, fun j x hx => (Below.chg hb).cell (h4 j x hx) (fun x => x)⟩
theorem infoN8 : (Tryd.prog.info? 3).map (fun i => (i.zero, i.size, i.bytes)) = some (some (.int .i64 0), 1, 8) := by kernel_rfl
set_option maxHeartbeats 1000000 in
theorem tc_new {w1 wc wf wg wh wi wj : World} {cap : Int} {n m c mp ch p g : Nat} {fs : List FnR} {pub : List (List Bool)} {picks : List Int} {V U : Value} {xs us : List Value} (h0 : N0 w1 wc cap n m c mp ch) (h1 : N1 (fun w l => FnCells w fs l) 39 5 wc wf m V fs.length xs)
    (h2 : N1 (fun w l => PubCells w pub l) 30 1 wf wg m U pub.length us) (h3 : Chg (fun k => k = ch) wg wh) (hch : wh.heap[ch]? = some (.chan n (nums picks).toArray false n 0 false)) (h4 : Below wh.heap.size wh wi) (h5 : Below wi.heap.size wi wj)
    (hp : wi.heap.size ≤ p ∧ p < wj.heap.size) (hg : 0 < fs.length → (wi.heap.size ≤ g ∧ g < wj.heap.size) ∧ ∃ vals, ProfIs wj p g fs.length (fun j => clampP ((fs.map (·.ps)).getD j 0)) vals)
    (hbox : wj.heap[m]? = some (.cells #[.pointer (some ⟨c, 0, none⟩), V, U, .chan (some ch), .pointer none, .map (some mp), .slice none 0 0] 55 (0, 0)))
    (hfl : fs.length ≤ 1048576) (hfs : ∀ f ∈ fs, f.l.length ≤ 1048576 ∧ ∀ y ∈ f.l, Full y) (hpk : ∀ z ∈ picks, In64 z) :
    ∃ tag x, TC (wj.setCell ⟨m, 4, none⟩ (.pointer (some ⟨p, 0, none⟩))) tag m cap 0 x ⟨fs, pub, picks, [], fun _ => none, []⟩ ∧ ∀ k, tag k ≠ 0 → w1.heap.size ≤ k := by
  have z1 := h0.bel.size
  have z2 := h1.chg.size
  have z3 := h2.chg.size
  have z4 := h3.size
  have z5 := h4.size
  have z6 := h5.size
  have lm := lt_of_heap h0.box
  have lc := lt_of_heap h0.chan
  have lp := GMapI.lt h0.map
  obtain ⟨e1, e2, e3⟩ := h0.ne
  obtain ⟨l1, l2, l3⟩ := h0.lo
  obtain ⟨wk, hwk⟩ : ∃ z, z = wj.setCell ⟨m, 4, none⟩ (.pointer (some ⟨p, 0, none⟩)) := ⟨_, rfl⟩
  have hset : Chg (fun k => k = m) wj wk := by rw [hwk]; exact Chg.set_cell (w := wj) ⟨m, 4, none⟩ _
  have hbk := heap_set hbox 4 (.pointer (some ⟨p, 0, none⟩))
  rw [← hwk] at hbk ⊢
  have z7 := hset.size
  have chk : Chg (fun k => k = m) wh wk := ((Below.chg h4).trans (Below.chg h5) (T := fun _ => False) (fun _ _ x => x) (fun _ _ x => x)).trans hset (fun _ _ x => x.elim) (fun _ _ x => x)
  have cgk : Chg (fun k => k = m ∨ k = ch) wg wk := h3.trans chk (fun _ _ x => .inr x) (fun _ _ x => .inl x)
  have cfk : Chg (fun k => k = m ∨ k = ch) wf wk := h2.chg.trans cgk (fun _ _ x => .inl x) (fun _ _ x => x)
  have cck : Chg (fun k => k = m ∨ k = ch) wc wk := h1.chg.trans cfk (fun _ _ x => .inl x) (fun _ _ x => x)
  obtain ⟨tag, ht⟩ : ∃ tag : Nat → Nat, tag = fun k => if k = m then 1 else if k = mp then 5 else if k = ch then 6 else if w1.heap.size ≤ k ∧ k < wc.heap.size then 2 else if wc.heap.size ≤ k ∧ k < wg.heap.size then 3 else if wi.heap.size ≤ k ∧ k < wj.heap.size then 4 else 0 := ⟨_, rfl⟩
  have tm : tag m = 1 := by rw [ht]; exact if_pos rfl
  have tp : tag mp = 5 := by rw [ht]; show (if mp = m then 1 else if mp = mp then 5 else _) = 5; rw [if_neg (fun e => e1 e.symm), if_pos rfl]
  have tc : tag ch = 6 := by rw [ht]; show (if ch = m then 1 else if ch = mp then 5 else if ch = ch then 6 else _) = 6; rw [if_neg (fun e => e2 e.symm), if_neg (fun e => e3 e.symm), if_pos rfl]
  have t2 : ∀ k, w1.heap.size ≤ k → k < wc.heap.size → k ≠ m → k ≠ mp → k ≠ ch → tag k = 2 := fun k a b c d e => by
    rw [ht]
    show (if k = m then 1 else if k = mp then 5 else if k = ch then 6 else if w1.heap.size ≤ k ∧ k < wc.heap.size then 2 else _) = 2
    rw [if_neg c, if_neg d, if_neg e, if_pos ⟨a, b⟩]
  have t3 : ∀ k, wc.heap.size ≤ k → k < wg.heap.size → tag k = 3 := fun k a b => by
    rw [ht]
    show (if k = m then 1 else if k = mp then 5 else if k = ch then 6 else if w1.heap.size ≤ k ∧ k < wc.heap.size then 2 else if wc.heap.size ≤ k ∧ k < wg.heap.size then 3 else _) = 3
    rw [if_neg (by omega), if_neg (by omega), if_neg (by omega), if_neg (by omega), if_pos ⟨a, b⟩]
  have t4 : ∀ k, wi.heap.size ≤ k → k < wj.heap.size → tag k = 4 := fun k a b => by
    rw [ht]
    show (if k = m then 1 else if k = mp then 5 else if k = ch then 6 else if w1.heap.size ≤ k ∧ k < wc.heap.size then 2 else if wc.heap.size ≤ k ∧ k < wg.heap.size then 3 else if wi.heap.size ≤ k ∧ k < wj.heap.size then 4 else 0) = 4
    rw [if_neg (by omega), if_neg (by omega), if_neg (by omega), if_neg (by omega), if_neg (by omega), if_pos ⟨a, b⟩]
  have tn : ∀ k, tag k ≠ 0 → w1.heap.size ≤ k ∧ k < wj.heap.size := fun k hk => by
    refine Classical.byContradiction (fun hn => hk ?_)
    rw [ht]
    show (if k = m then 1 else if k = mp then 5 else if k = ch then 6 else if w1.heap.size ≤ k ∧ k < wc.heap.size then 2 else if wc.heap.size ≤ k ∧ k < wg.heap.size then 3 else if wi.heap.size ≤ k ∧ k < wj.heap.size then 4 else 0) = 0
    rw [if_neg (by omega), if_neg (by omega), if_neg (by omega), if_neg (by omega), if_neg (by omega), if_neg (by omega)]
  clear ht
  refine ⟨tag, ⟨c, p, g, mp, ch, n, V, U⟩, ⟨fun k hk => by have := tn k hk; omega, ⟨tm, .slice none 0 0, hbk, World.ownsRow_nil _ _ _ _, fun k hk => by cases hk⟩, ⟨0, Nat.le_refl _, ?_⟩, fun w' hc => ⟨?_, ?_⟩, fun hpos => ?_, ⟨tp, 0, Nat.le_refl _, GMap.kept h0.map cck (fun e => by have e : mp = m ∨ mp = ch := e; omega)⟩, ⟨tc, n, 0, chk.heap hch (fun e => e2 e.symm)⟩, ⟨hfl, hfs, Nat.zero_le _⟩, hpk⟩, fun k hk => (tn k hk).1⟩
  · obtain ⟨S, hS, hd⟩ := h0.cache
    exact (hS.kept cck (fun k hk e => by have := hd k hk; omega)).mono (fun k hk => by have := hd k hk; exact t2 k this.1 this.2.1 this.2.2.1 this.2.2.2.1 this.2.2.2.2)
  · have hV := fun k hk => And.intro (h1.far k hk) (ownsRow_lt h1.row k hk)
    have cfw : Chg (fun k => k < wc.heap.size ∨ V.ownBlock = some k) wf w' := cfk.trans hc (fun i hi x => .inl (by omega)) (fun i hi x => by
      by_cases hl : i < wc.heap.size
      · exact .inl hl
      · exact (x (t3 i (by omega) (by omega))).elim)
    refine FnsIs.of_row (xs := xs) ?_ (h1.all w' cfw)
    exact ownsRow_kept (ownsRow_kept h1.row cfk (fun k hk e => by have := hV k hk; omega)) hc (fun k hk e => e (t3 k (by have := hV k hk; omega) (by have := hV k hk; omega)))
  · have hU := fun k hk => And.intro (h2.far k hk) (ownsRow_lt h2.row k hk)
    have cgw : Chg (fun k => k < wf.heap.size ∨ U.ownBlock = some k) wg w' := cgk.trans hc (fun i hi x => .inl (by omega)) (fun i hi x => by
      by_cases hl : i < wf.heap.size
      · exact .inl hl
      · exact (x (t3 i (by omega) (by omega))).elim)
    refine pubIs_of (t := 30) (xs := us) ?_ (h2.all w' cgw)
    exact ownsRow_kept (ownsRow_kept h2.row cgk (fun k hk e => by have := hU k hk; omega)) hc (fun k hk e => e (t3 k (by have := hU k hk; omega) (by have := hU k hk; omega)))
  · obtain ⟨hgl, vals, hv⟩ := hg hpos
    refine ⟨t4 p hp.1 hp.2, t4 g hgl.1 hgl.2, vals, ?_⟩
    have hv := hv.kept hset (fun e => by have := hp.1; omega) (fun e => by have := hgl.1; omega)
    have e : (fun j => clampP ((fs.map (·.ps)).getD j 0)) = (fun j => ((parV (TS.f ⟨fs, pub, picks, [], fun _ => none, []⟩ j) : Nat) : Int)) := by
      funext j
      unfold parV TS.f clampP
      by_cases hj : j < fs.length
      · rw [List.getD_eq_getElem?_getD, List.getElem?_map, List.getD_eq_getElem?_getD, List.getElem?_eq_getElem hj]
        show min (max (fs[j]).ps 0) 8 = (((min (max (fs[j]).ps 0) 8).toNat : Nat) : Int)
        omega
      · rw [List.getD_eq_getElem?_getD, List.getElem?_map, List.getD_eq_getElem?_getD, List.getElem?_eq_none (by omega)]
        rfl
    rw [← e]
    exact hv
theorem infoRB : (Tryd.prog.info? 30).map (fun i => (i.zero, i.size, i.bytes)) = some (some (.slice none 0 0), 1, 24) := by kernel_rfl
end Go.Proofs.YtgiegkacilfofabDoor
