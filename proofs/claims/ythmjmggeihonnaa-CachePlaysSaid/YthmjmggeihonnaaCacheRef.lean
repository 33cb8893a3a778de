/- The document's cache: entries in a row: what its memory is, and what its methods do. -/
import Derived.Test.YthmjmggeihonnaaCacheB
namespace Go.Proofs.Ythmjmggeihonnaa
set_option linter.unusedVariables false
set_option linter.unusedSimpArgs false
open Go.RowKit Go.Deep

theorem infoEntry : (Try.prog.info? 50).map (fun i => (i.zero, i.size, i.bytes)) = some (some (.agg #[.int .i64 0, .slice none 0 0]), 2, 32) := by kernel_rfl
theorem infoRIns : (Try.prog.info? 62).map (fun i => (i.zero, i.size, i.bytes)) = some (some (.agg #[.int .i64 0, .int .i64 0, .int .i64 0]), 3, 24) := by kernel_rfl

structure REnt where
  fn : Int
  body : List InsR
  val : Value
def REnt.cells (e : REnt) : List Value := [.int .i64 e.fn, e.val]
def REnt.told (e : REnt) : Int × List InsR := (e.fn, e.body)
def rents (l : List REnt) : List Value := l.flatMap REnt.cells
theorem rents_length (l : List REnt) : (rents l).length = l.length * 2 := by
  induction l with
  | nil => rfl
  | cons p l ih => simp only [rents, List.flatMap_cons, List.length_append, List.length_cons] at ih ⊢; rw [ih]; simp [REnt.cells]; omega
theorem rents_get (l : List REnt) (k : Nat) (h : k < l.length) : (rents l)[k * 2]? = some (.int .i64 l[k].fn) ∧ (rents l)[k * 2 + 1]? = some l[k].val := by
  induction l generalizing k with
  | nil => simp at h
  | cons p l ih =>
    cases k with
    | zero => simp [rents, REnt.cells]
    | succ k =>
      have := ih k (by simpa using h)
      unfold rents at this ⊢
      simp only [List.flatMap_cons, List.getElem_cons_succ]
      have hp : p.cells.length = 2 := rfl
      rw [List.getElem?_append_right (by omega), List.getElem?_append_right (by omega), hp]
      rw [show (k + 1) * 2 - 2 = k * 2 by omega, show (k + 1) * 2 + 1 - 2 = k * 2 + 1 by omega]
      exact this

structure RCSt (w : World) (S : Nat → Prop) (r : Nat) (cap : Int) (vL : Value) (es : List REnt) : Prop where
  hr : S r
  blk : w.heap[r]? = some (.cells #[.int .i64 cap, vL] 29 (0, 0))
  own : w.ownsRow 0 50 2 vL es.length (rents es)
  neL : ∀ k, vL.ownBlock = some k → S k ∧ k ≠ r
  ent : ∀ e ∈ es, e.body.length ≤ 20 ∧ w.ownsRow 0 62 3 e.val e.body.length (insCells e.body) ∧ ∀ k, e.val.ownBlock = some k → S k ∧ k ≠ r ∧ vL.ownBlock ≠ some k

theorem RCSt.kept {w w' : World} {S T : Nat → Prop} {r : Nat} {cap : Int} {vL : Value} {es : List REnt} (h : RCSt w S r cap vL es) (hc : Chg T w w') (hn : ∀ k, S k → ¬ T k) : RCSt w' S r cap vL es :=
  ⟨h.hr, hc.heap h.blk (hn _ h.hr), ownsRow_kept h.own hc (fun k hk => hn _ (h.neL k hk).1), h.neL,
    fun e he => ⟨(h.ent e he).1, ownsRow_kept (h.ent e he).2.1 hc (fun k hk => hn _ ((h.ent e he).2.2 k hk).1), (h.ent e he).2.2⟩⟩
theorem RCSt.mono {w : World} {S S' : Nat → Prop} {r : Nat} {cap : Int} {vL : Value} {es : List REnt} (h : RCSt w S r cap vL es) (hS : ∀ k, S k → S' k) : RCSt w S' r cap vL es :=
  ⟨hS _ h.hr, h.blk, h.own, fun k hk => ⟨hS _ (h.neL k hk).1, (h.neL k hk).2⟩, fun e he => ⟨(h.ent e he).1, (h.ent e he).2.1, fun k hk => ⟨hS _ ((h.ent e he).2.2 k hk).1, ((h.ent e he).2.2 k hk).2⟩⟩⟩
theorem RCSt.bound {w : World} {S : Nat → Prop} {r : Nat} {cap : Int} {vL : Value} {es : List REnt} (h : RCSt w S r cap vL es) : RCSt w (fun k => S k ∧ k < w.heap.size) r cap vL es :=
  ⟨⟨h.hr, lt_of_heap h.blk⟩, h.blk, h.own, fun k hk => ⟨⟨(h.neL k hk).1, ownsRow_lt h.own k hk⟩, (h.neL k hk).2⟩,
    fun e he => ⟨(h.ent e he).1, (h.ent e he).2.1, fun k hk => ⟨⟨((h.ent e he).2.2 k hk).1, ownsRow_lt (h.ent e he).2.1 k hk⟩, ((h.ent e he).2.2 k hk).2⟩⟩⟩

/-- the slice's place in the row, in any later world in which its block stays -/
theorem RCSt.at {w : World} {S : Nat → Prop} {r : Nat} {cap : Int} {A : Option Addr} {n c : Nat} {es : List REnt} (h : RCSt w S r cap (.slice A n c) es) (hn : n = es.length) (h0 : 0 < n) :
    ∃ g, A = some ⟨g, 0, none⟩ ∧ n ≤ c ∧ c ≤ maxLen ∧ ∀ wx, Chg (fun k => k = r) w wx → ∀ (j : Nat) (hj : j < es.length), wx.cell? ⟨g, j * 2, none⟩ = some (.int .i64 es[j].fn) ∧ wx.cell? ⟨g, j * 2 + 1, none⟩ = some es[j].val := by
  have ho := h.own
  have hne := h.neL
  rw [← hn] at ho
  obtain ⟨g, cp, e, hgl, hc⟩ := ownsRow_at ho h0
  injection e with e1 _ e3
  subst e1 e3
  have hcm : n ≤ c ∧ c ≤ maxLen := by
    rcases ho.2 with ⟨_, h1⟩ | ⟨g', cap', cur, e, _, _, h1, h2, _⟩
    · omega
    · injection e with _ _ e3
      subst e3
      exact ⟨h1, h2⟩
  refine ⟨g, rfl, hcm.1, hcm.2, fun wx hx j hj => ?_⟩
  obtain ⟨f1, f2⟩ := rents_get es j hj
  have hgr : g ≠ r := (hne g rfl).2
  exact ⟨hx.cell (hc _ _ f1) hgr, hx.cell (hc _ _ f2) hgr⟩

theorem filter_take_succ {α : Type} (p : α → Bool) (l : List α) (j : Nat) (h : j < l.length) : (l.take (j + 1)).filter p = (l.take j).filter p ++ if p l[j] then [l[j]] else [] := by
  rw [List.take_succ_eq_append_getElem h, List.filter_append]
  simp only [List.filter_cons, List.filter_nil]
theorem rents_one {l : List REnt} {u : Value} (hu : u ∈ rents l) (hv : ∀ e ∈ l, ∃ A n c, e.val = .slice A n c) : u.oneCell' = true := by
  obtain ⟨p, hpl, hp⟩ := List.mem_flatMap.1 hu
  simp only [REnt.cells, List.mem_cons, List.not_mem_nil, or_false] at hp
  rcases hp with rfl | rfl
  · rfl
  · obtain ⟨A, n, c, e⟩ := hv p hpl
    rw [e]
    rfl
theorem rents_append (a b : List REnt) : rents (a ++ b) = rents a ++ rents b := by simp [rents]

set_option maxHeartbeats 2000000 in
set_option maxRecDepth 100000 in
theorem rcdrop_any {w : World} {S : Nat → Prop} {r : Nat} {cap : Int} {vL : Value} {es : List REnt} (h : RCSt w S r cap vL es) (fn : Int) (hm : es.length ≤ 1048576) :
    Calls Try.prog 15 #[.pointer (some ⟨r, 0, none⟩), .int .i64 fn] w fun e w' => e = .returned (.bool (decide ((es.filter (fun e => e.fn != fn)).length < es.length))) ∧ ∃ vL', RCSt w' (fun k => S k ∨ w.heap.size ≤ k) r cap vL' (es.filter (fun e => e.fn != fn)) ∧ Chg S w w' := by
  have c1 := cell_of_block h.blk 1
  simp at c1
  have f1 := frozen_of_block h.blk 1
  have hrl := lt_of_heap h.blk
  have HH := Lib.hid h
  obtain ⟨n, hN⟩ : ∃ n, n = es.length := ⟨_, rfl⟩
  have hvs : ∃ A c, vL = .slice A n c := by rw [hN]; exact (ownsRow_slice h.own).2
  obtain ⟨A, c, rfl⟩ := hvs
  rw [← hN] at hm ⊢
  have HN := Lib.hid hN
  have HC1 : Hid (∀ wx, Chg (fun _ => False) w wx → wx.cell? ⟨r, 1, none⟩ = some (.slice A n c) ∧ wx.frozen? ⟨r, 1, none⟩ = false) := Lib.hid fun wx hx => ⟨hx.cell c1 (fun x => x), (hx.frozen hrl (fun x => x)).trans f1⟩
  obtain ⟨i0, hi, hz0, hz1, hz2⟩ := info_parts infoEntry
  clear h hN f1
  go_enter Try.func15, Try.ntmps15
  go_wp2_with fail
  go_loopg [5, 6] n (fun k v i wr => ∃ j : Nat, j ≤ n ∧ k = n - j ∧ i = .int .i64 j ∧ ∃ V m cv, v = .slice V m cv ∧ m ≤ j ∧ Hid (m = ((es.take j).filter (fun e => e.fn != fn)).length) ∧ Hid (wr.ownsRow 0 50 2 (.slice V m cv) m (rents ((es.take j).filter (fun e => e.fn != fn)))) ∧ Hid (∀ k, (Value.slice V m cv).ownBlock = some k → w.heap.size ≤ k) ∧ Hid (Chg (fun _ => False) w wr))
  case atStart => exact ⟨0, by omega, rfl, rfl, some ⟨w.heap.size, 0, none⟩, 0, 0, rfl, by omega, Lib.hid rfl, Lib.hid ⟨rfl, .inr ⟨w.heap.size, 0, #[], rfl, Nat.zero_le _, heap_new _ _, Nat.le_refl _, by simp [maxLen], rfl, rfl⟩⟩, Lib.hid (fun k hk => Nat.le_of_eq (Option.some.inj hk)), Lib.hid ((Chg.refl _ _).alloc _)⟩
  case round =>
    obtain ⟨j, hj, hk, rfl, V, m, cv, rfl, hmj, HM, HO, HV, HCH⟩ := hrel
    have HK := Lib.hid hk
    obtain ⟨c1r, f1r⟩ := HC1.out wr HCH.out
    clear hk c1
    by_cases hlt : j < n
    · have hje : j < es.length := by rw [← HN.out]; exact hlt
      obtain ⟨g, rfl, hnc, hcm, hat⟩ := HH.out.at HN.out (by omega)
      obtain ⟨d1, d2⟩ := hat wr (HCH.out.mono (fun _ _ x => x.elim)) j hje
      have hfs := filter_take_succ (fun e : REnt => e.fn != fn) es j hje
      obtain ⟨ej, hej⟩ : ∃ ej, es[j] = ej := ⟨_, rfl⟩
      rw [hej] at d1 d2 hfs
      have HAT := Lib.hid hat
      have hvo := HH.out.ent ej (by rw [← hej]; exact List.getElem_mem _)
      obtain ⟨_, hvo, _⟩ := hvo
      obtain ⟨_, B, cb, hB⟩ := ownsRow_slice hvo
      obtain ⟨ef, eb, ev⟩ := ej
      simp only at d1 d2 hfs hB
      subst hB
      have HF := Lib.hid hfs
      generalize hbl : eb.length = bl at *
      clear hat hfs hvo hej hje hbl
      unfold maxLen at hcm
      by_cases hx : ef = fn
      · subst hx
        go_wp2_with fail
        go_roundg (n - (j + 1))
        case measure => have := HK.out; omega
        case rel => exact ⟨j + 1, by omega, rfl, by go_num, V, m, cv, rfl, by omega, Lib.hid (by have := HF.out; rw [this]; simp; exact HM.out), Lib.hid (by have := HF.out; rw [this]; simp; exact HO.out), HV, HCH⟩
      · go_wp2_with (at_builtin; refine wpList_append_lies _ rfl _ _ _ rfl 0 50 i0 _ 2 32 Try.underlying27 hi hz0 hz1 hz2 rfl (by omega) (.slice V m cv) m _ rfl (HO.out.alloc _) ⟨wr.heap.size, 0, none⟩ 1 1 [.int .i64 ef, .slice B bl cb] rfl rfl (World.news_of_block (cs := #[.int .i64 ef, .slice B bl cb]) (t := 50) (fr := (0, 0)) (heap_new _ _)) (by simp [Value.oneCell']) (by omega) (by unfold maxLen; omega) (by omega) (by omega) (wr.heap.size + 1) (by simp) ?_; intro g2 cap2 w1 hown1 hgrow hat2 hlt2)
        go_roundg (n - (j + 1))
        case measure => have := HK.out; omega
        case rel =>
          have e := HF.out
          rw [if_pos (by simp [hx])] at e
          have hch : Chg (fun _ => False) w w1 := (HCH.out.alloc _).grownBy hgrow (fun k hk hlt => by have := HV.out k hk; omega)
          refine ⟨j + 1, by omega, rfl, by go_num, _, m + 1, cap2, rfl, by omega, Lib.hid (by rw [e, List.length_append, ← HM.out]; rfl), Lib.hid ?_, Lib.hid (fun k hk => ?_), Lib.hid hch⟩
          · rw [e, rents_append]; exact hown1
          · obtain rfl : g2 = k := by injection hk
            rcases hat2 with h2 | h2
            · exact HV.out _ h2
            · have := HCH.out.size; omega
    · have hjn : j = es.length := by rw [← HN.out]; omega
      go_wp2_with fail
      go_ret
      have hM := HM.out
      have hO := HO.out
      rw [hjn, List.take_length] at hM hO
      have h := HH.out
      have hc3 : Chg (fun k => k = r) w (wr.setCell ⟨r, 1, none⟩ (.slice V m cv)) := Chg.setCell (S := fun k => k = r) (p := ⟨r, 1, none⟩) (HCH.out.mono (fun _ _ x => x.elim)) (fun _ => rfl) _
      have hVr : ∀ k, (Value.slice V m cv).ownBlock = some k → k ≠ r := fun k hk e => by have := HV.out k hk; omega
      refine ⟨by rw [← hM]; rfl, .slice V m cv, ⟨.inl h.hr, heap_set (HCH.out.heap h.blk (fun x => x)) 1 _, ?_, fun k hk => ⟨.inr (HV.out k hk), hVr k hk⟩, fun e he => ?_⟩, hc3.mono (fun k _ e => by rw [e]; exact h.hr)⟩
      · rw [← hM]
        exact ownsRow_kept hO (Chg.set_cell ⟨r, 1, none⟩ _) (fun k hk e => hVr k hk e)
      · obtain ⟨h1, h2, h3⟩ := h.ent e ((List.mem_filter.1 he).1)
        exact ⟨h1, ownsRow_kept h2 hc3 (fun k hk => (h3 k hk).2.1), fun k hk => ⟨.inl (h3 k hk).1, (h3 k hk).2.1, fun e2 => by have := HV.out k e2; have := ownsRow_lt h2 k hk; omega⟩⟩

theorem wp_append_own {w : World} {o : Oper} {a : Act} {K : Act → World → Prop} {Q : Exit → Act → World → Prop} (s x : Operand) (t : TypeId)
    (ho : o.op = .call { callee := .builtin .append, args := #[s, x], argTypes := #[t, t] })
    (base : Nat) (e : TypeId) (i : TypeInfo) (z : Value) (size bytes : Nat) (ht : Try.prog.underlying t = some (.slice e)) (hi : Try.prog.info? e = some i) (hz : i.zero = some z)
    (hsize : i.size = size) (hby : i.bytes = bytes) (hzs : z.cells.size = size) (hsz : 0 < size)
    (v : Value) (n : Nat) (xs : List Value) (hs : a.eval s = v) (hown : w.ownsRow base e size v n xs)
    (ad : Addr) (m c : Nat) (news : List Value) (hx : a.eval x = .slice (some ad) m c) (hl : news.length = m * size) (hnews : ∀ j u, news[j]? = some u → w.cell? (ad.add j) = some u) (h1 : ∀ u ∈ news, u.oneCell' = true)
    (h63 : n + m ≤ maxLen) (hbytes : (n + m) * bytes ≤ 140737488355328) (hbase : base ≤ w.heap.size)
    (h : ∀ v' w', w'.ownsRow base e size v' (n + m) (xs ++ news) → w.grownBy w' v.ownBlock → (v' = .slice none 0 0 ↔ v = .slice none 0 0 ∧ m = 0) → (v'.ownBlock = v.ownBlock ∨ v'.ownBlock = some w.heap.size) → K (a.put o.dst v') w') :
    o.wp Try.prog a w K Q := by
  obtain ⟨v', w', hr, h2, h3, h4, h5⟩ := run_append_own_at (P := Try.prog) w base t o.type e i z size bytes ht hi hz hsize hby hzs hsz v n xs hown ad m c news hl hnews h1 h63 hbytes hbase
  unfold Oper.wp execOp
  simp only [ho, resolve, invoke, builtin, Sem.run_bind, Sem.run_pure, Result.andThen_ok, List.map_toArray, List.map_cons, List.map_nil, hs, hx, hr]
  exact h _ _ h2 h3 h4 h5

/-- one entry more: what region 8 of Put leaves -/
theorem RCSt.more {w w1 w2 : World} {S : Nat → Prop} {r : Nat} {cap : Int} {vL v1 : Value} {es : List REnt} {fn : Int} {body : List InsR} (h : RCSt w S r cap vL es) (hb : body.length ≤ 20)
    (c1 : Chg (fun _ => False) w w1) (ho1 : w1.ownsRow 0 62 3 v1 body.length (insCells body)) (hn1 : ∀ k, v1.ownBlock = some k → w.heap.size ≤ k)
    {g cp : Nat} (ho2 : w2.ownsRow 0 50 2 (.slice (some ⟨g, 0, none⟩) (es.length + 1) cp) (es.length + 1) (rents es ++ [.int .i64 fn, v1])) (c2 : Chg (fun k => vL.ownBlock = some k) w1 w2) (hat : vL.ownBlock = some g ∨ w1.heap.size ≤ g) :
    RCSt (w2.setCell ⟨r, 1, none⟩ (.slice (some ⟨g, 0, none⟩) (es.length + 1) cp)) (fun k => S k ∨ w.heap.size ≤ k) r cap (.slice (some ⟨g, 0, none⟩) (es.length + 1) cp) (es ++ [⟨fn, body, v1⟩]) ∧ Chg S w (w2.setCell ⟨r, 1, none⟩ (.slice (some ⟨g, 0, none⟩) (es.length + 1) cp)) := by
  have hrl := lt_of_heap h.blk
  have hgr : g ≠ r := by
    rcases hat with e | e
    · exact (h.neL g e).2
    · have := c1.size; omega
  have c3 : Chg (fun k => vL.ownBlock = some k ∨ k = r) w1 (w2.setCell ⟨r, 1, none⟩ (.slice (some ⟨g, 0, none⟩) (es.length + 1) cp)) := Chg.setCell (S := fun k => vL.ownBlock = some k ∨ k = r) (p := ⟨r, 1, none⟩) (c2.mono (fun _ _ x => .inl x)) (fun _ => .inr rfl) _
  have c4 : Chg (fun k => vL.ownBlock = some k ∨ k = r) w (w2.setCell ⟨r, 1, none⟩ (.slice (some ⟨g, 0, none⟩) (es.length + 1) cp)) := c1.trans c3 (fun _ _ x => x.elim) (fun _ _ x => x)
  refine ⟨⟨.inl h.hr, ?_, ?_, ?_, ?_⟩, c4.mono (fun k _ hk => ?_)⟩
  · exact heap_set (c2.heap (c1.heap h.blk (fun x => x)) (fun e => (h.neL r e).2 rfl)) 1 _
  · have := ownsRow_kept ho2 (Chg.set_cell ⟨r, 1, none⟩ (.slice (some ⟨g, 0, none⟩) (es.length + 1) cp)) (fun k hk e => hgr (by injection hk with hk; exact hk.trans e))
    rw [List.length_append, rents_append]
    exact this
  · intro k hk
    obtain rfl : g = k := by injection hk
    refine ⟨?_, hgr⟩
    rcases hat with e | e
    · exact .inl (h.neL g e).1
    · exact .inr (Nat.le_trans c1.size e)
  · intro e he
    rcases List.mem_append.1 he with he | he
    · obtain ⟨h1, h2, h3⟩ := h.ent e he
      refine ⟨h1, ownsRow_kept h2 c4 (fun k hk x => x.elim (h3 k hk).2.2 (h3 k hk).2.1), fun k hk => ⟨.inl (h3 k hk).1, (h3 k hk).2.1, fun x => ?_⟩⟩
      obtain rfl : g = k := by injection x
      rcases hat with e | e
      · exact (h3 g hk).2.2 e
      · have := ownsRow_lt h2 g hk; have := c1.size; omega
    · rw [List.mem_singleton] at he
      subst he
      have hv1 : ∀ k, v1.ownBlock = some k → k ≠ r ∧ vL.ownBlock ≠ some k ∧ k < w1.heap.size := fun k hk => ⟨fun e => by have := hn1 k hk; omega, fun e => by have := ownsRow_lt h.own k e; have := hn1 k hk; omega, ownsRow_lt ho1 k hk⟩
      refine ⟨hb, ownsRow_kept ho1 c3 (fun k hk x => x.elim (hv1 k hk).2.1 (hv1 k hk).1), fun k hk => ⟨.inr (hn1 k hk), (hv1 k hk).1, fun x => ?_⟩⟩
      obtain rfl : g = k := by injection x
      rcases hat with e | e
      · exact (hv1 g hk).2.1 e
      · have := (hv1 g hk).2.2; omega
  · rcases hk with hk | hk
    · exact (h.neL k hk).1
    · rw [hk]; exact h.hr

/-- the eldest one taken away: what region 7 of Put leaves -/
theorem RCSt.less {w w1 : World} {S : Nat → Prop} {r : Nat} {cap : Int} {vL v1 : Value} {e0 : REnt} {es : List REnt} (h : RCSt w S r cap vL (e0 :: es))
    (c1 : Chg (fun _ => False) w w1) (ho1 : w1.ownsRow 0 50 2 v1 es.length (rents es)) (hn1 : ∀ k, v1.ownBlock = some k → w.heap.size ≤ k) :
    RCSt (w1.setCell ⟨r, 1, none⟩ v1) (fun k => S k ∨ w.heap.size ≤ k) r cap v1 es ∧ Chg S w (w1.setCell ⟨r, 1, none⟩ v1) := by
  have hrl := lt_of_heap h.blk
  have hvr : ∀ k, v1.ownBlock = some k → k ≠ r := fun k hk e => by have := hn1 k hk; omega
  have c4 : Chg (fun k => k = r) w (w1.setCell ⟨r, 1, none⟩ v1) := Chg.setCell (S := fun k => k = r) (p := ⟨r, 1, none⟩) (c1.mono (fun _ _ x => x.elim)) (fun _ => rfl) _
  refine ⟨⟨.inl h.hr, heap_set (c1.heap h.blk (fun x => x)) 1 _, ownsRow_kept ho1 (Chg.set_cell ⟨r, 1, none⟩ v1) (fun k hk e => hvr k hk e), fun k hk => ⟨.inr (hn1 k hk), hvr k hk⟩, fun e he => ?_⟩, c4.mono (fun k _ e => by rw [e]; exact h.hr)⟩
  obtain ⟨h1, h2, h3⟩ := h.ent e (List.mem_cons_of_mem _ he)
  exact ⟨h1, ownsRow_kept h2 c4 (fun k hk => (h3 k hk).2.1), fun k hk => ⟨.inl (h3 k hk).1, (h3 k hk).2.1, fun x => by have := hn1 k x; have := ownsRow_lt h2 k hk; omega⟩⟩

def rputw (q : Int) (es : List REnt) : Int × Bool × List REnt :=
  if q ≤ (es.length : Int) then ((es.map REnt.fn).headD 0, true, es.tail) else (0, false, es)
def rputv (q : Int) (es : List REnt) (fn : Int) : Int × Bool × List REnt := rputw q (es.filter (fun e => e.fn != fn))

set_option maxHeartbeats 4000000 in
set_option maxRecDepth 100000 in
theorem rcput_any {w : World} {S : Nat → Prop} {r : Nat} {cap : Int} {vL : Value} {es : List REnt} (h : RCSt w S r cap vL es) (fn : Int) (hm : es.length ≤ 1048576) (m1 q : Int) (hm1 : (if cap < 1 then 1 else cap) = m1) (hm2 : (if 32 < m1 then 32 else m1) = q) (hq1 : 1 ≤ q)
    (bv : Value) (body : List InsR) (hb : body.length ≤ 20) (hs : Src w bv body.length (insCells body)) (hsome : ∃ ad c, bv = .slice (some ad) body.length c) (hne : ∀ k, bv.ownBlock = some k → ¬ S k)
    (gone : Int) (ev : Bool) (es' : List REnt) (hp : rputv q es fn = (gone, ev, es')) :
    Calls Try.prog 11 #[.pointer (some ⟨r, 0, none⟩), .int .i64 fn, bv] w fun e w' => e = .returned (.tuple #[.int .i64 gone, .bool ev]) ∧ ∃ vL' v, RCSt w' (fun k => S k ∨ w.heap.size ≤ k) r cap vL' (es' ++ [⟨fn, body, v⟩]) ∧ Chg S w w' := by
  have HD := Lib.hid (rcdrop_any h fn hm)
  have HP := Lib.hid hp
  have HS := Lib.hid (And.intro hs hne)
  obtain ⟨ad, cb, rfl⟩ := hsome
  have hml : (es.filter (fun e => e.fn != fn)).length ≤ 1048576 := Nat.le_trans (List.length_filter_le _ _) hm
  obtain ⟨i0, hi, hz0, hz1, hz2⟩ := info_parts infoEntry
  obtain ⟨i1, hj, hy0, hy1, hy2⟩ := info_parts infoRIns
  unfold rputv rputw at HP
  clear h hp hs hne hm
  generalize es.filter (fun e => e.fn != fn) = es1 at *
  obtain ⟨n, hN⟩ : ∃ n, n = es1.length := ⟨_, rfl⟩
  obtain ⟨bl, hBL⟩ : ∃ bl, bl = body.length := ⟨_, rfl⟩
  have HN := Lib.hid hN
  rw [← hN] at hml
  rw [← hBL] at hb ⊢
  have HBL := Lib.hid hBL
  clear hN hBL
  go_enter Try.func11, Try.ntmps11
  go_wp2_with fail
  refine HD.out.mono ?_; rintro e w1 ⟨rfl, vL1, h1, hc1⟩
  obtain ⟨A1, c1, rfl⟩ : ∃ A c, vL1 = .slice A n c := by rw [HN.out]; exact (ownsRow_slice h1.own).2
  have d0 := cell_of_block h1.blk 0
  have d1 := cell_of_block h1.blk 1
  simp at d0 d1
  have H1 := Lib.hid h1
  have HC := Lib.hid hc1
  clear h1 hc1 HD
  go_wp2_with fail
  by_cases hq : q ≤ (n : Int)
  · have hpe : (es1.map REnt.fn).headD 0 = gone ∧ true = ev ∧ es1.tail = es' := by
      have hpv := HP.out
      rw [if_pos (by rw [← HN.out]; exact hq)] at hpv
      simpa using hpv
    obtain ⟨e0, rest, hes⟩ : ∃ e0 rest, es1 = e0 :: rest := by
      cases h : es1 with
      | nil => have := HN.out; rw [h] at this; simp at this; omega
      | cons a b => exact ⟨a, b, rfl⟩
    subst hes
    obtain ⟨hp1, rfl, hp3⟩ := hpe
    obtain ⟨n2, hn2⟩ : ∃ n2, n2 = rest.length := ⟨_, rfl⟩
    have hnn : n = n2 + 1 := by rw [HN.out, hn2]; rfl
    subst hnn
    obtain ⟨g, rfl, hnc, hcm, hat⟩ := H1.out.at HN.out (by omega)
    have hat0 := (hat w1 (Chg.refl _ _) 0 (by simp)).1
    simp only [List.getElem_cons_zero, Nat.zero_mul] at hat0
    have hp1 : e0.fn = gone := by simpa using hp1
    have hp3 : rest = es' := by simpa using hp3
    subst hp3
    rw [hp1] at hat0
    have HAT := Lib.hid hat
    have HN2 := Lib.hid hn2
    clear hat hn2 hp1
    have hcm : c1 ≤ 9223372036854775807 := hcm
    have d2 := frozen_of_block H1.out.blk 1
    have hr1 := lt_of_heap H1.out.blk
    go_region
    have HON : Hid (∀ u ∈ rents rest, u.oneCell' = true) := Lib.hid (fun u hu => rents_one hu (fun e he => by obtain ⟨_, h, _⟩ := H1.out.ent e (List.mem_cons_of_mem _ he); obtain ⟨_, A, c, e⟩ := ownsRow_slice h; exact ⟨_, _, _, e⟩))
    by_cases hc1 : c1 = 1
    · subst hc1
      have hn20 : n2 = 0 := by omega
      obtain rfl : rest = [] := List.length_eq_zero_iff.1 (by rw [← HN2.out, hn20])
      subst hn20
      go_wp2_with fail
      obtain ⟨wx, hwx⟩ : ∃ wx, wx = ((w1.setCell ⟨r, 1, none⟩ (.slice (some ⟨w1.heap.size, 0, none⟩) 0 0)).alloc (.cells #[] 50)).drew := ⟨_, rfl⟩
      rw [← hwx]
      have hcr : Chg (fun k => k = r) w1 wx := by
        rw [hwx]
        exact ((Chg.setCell (S := fun k => k = r) (p := ⟨r, 1, none⟩) (Chg.refl _ _) (fun _ => rfl) _).alloc _).drew
      have hbr : wx.heap[r]? = some (.cells #[.int .i64 cap, .slice (some ⟨w1.heap.size, 0, none⟩) 0 0] 29 (0, 0)) := by
        rw [hwx]
        exact heap_old (heap_set H1.out.blk 1 _)
      have hbn : wx.heap[w1.heap.size]? = some (.cells #[] 50 (0, 0)) := by
        rw [hwx]
        have := heap_new (w1.setCell ⟨r, 1, none⟩ (.slice (some ⟨w1.heap.size, 0, none⟩) 0 0)) (.cells #[] 50)
        have hsz : (w1.setCell ⟨r, 1, none⟩ (.slice (some ⟨w1.heap.size, 0, none⟩) 0 0)).heap.size = w1.heap.size := by simp [World.setCell]
        rw [hsz] at this
        exact this
      have hx : RCSt wx (fun k => S k ∨ w.heap.size ≤ k) r cap (.slice (some ⟨w1.heap.size, 0, none⟩) 0 0) [] :=
        ⟨H1.out.hr, hbr, ⟨rfl, .inr ⟨w1.heap.size, 0, #[], rfl, Nat.zero_le _, hbn, Nat.le_refl _, by simp [maxLen], rfl, rfl⟩⟩, fun k hk => ⟨.inr (by have hk := Option.some.inj hk; rw [← hk]; exact HC.out.size), fun e => by have hk : w1.heap.size = k := Option.some.inj hk; omega⟩, fun e he => by cases he⟩
      have HCX : Hid (Chg S w wx) := Lib.hid (HC.out.trans hcr (fun _ _ x => x) (fun k hk e => H1.out.hr.elim (fun h => by rw [e]; exact h) (fun h => absurd hk (by omega))))
      clear hcr hbr hbn hwx d0 d1 d2 hat0
      have d1x := cell_of_block hx.blk 1
      simp at d1x
      have fx := frozen_of_block hx.blk 1
      have hrx := lt_of_heap hx.blk
      have HX := Lib.hid hx
      clear hx
      have hS0 : wx.drew.cell? ⟨r, 1, none⟩ = some (.slice (some ⟨w1.heap.size, 0, none⟩) 0 0) := d1x
      have fS0 : wx.drew.frozen? ⟨r, 1, none⟩ = false := fx
      clear d1x fx
      refine wp_region_ord (S := fun w' => w'.cell? ⟨r, 1, none⟩ = some (.slice (some ⟨w1.heap.size, 0, none⟩) 0 0)) (N := fun i => i != 14) (by kernel_rfl) [(0, true), (1, true), (2, true), (3, true), (4, true), (5, true), (7, true), (6, false), (8, false), (9, true), (10, false), (11, false), (12, true), (13, true), (14, false)] (by kernel_rfl) ?_
      iterate 7 (refine ord_look rfl hS0 rfl (by intro w hS; go_simp; with_reducible rfl) (fun c a w h => h) ?_; simp only [Act.put, List.setIfInBounds_toArray, List.set_cons_succ, List.set_cons_zero])
      refine ord_act rfl rfl (fun K hK => ?_)
      go_simp
      have hS1 : (wx.drew.alloc (.cells #[] 62)).cell? ⟨r, 1, none⟩ = some (.slice (some ⟨w1.heap.size, 0, none⟩) 0 0) := cell_alloc hS0 _
      refine hK _ _ ⟨fun _ => hS1, ?_⟩
      clear hK K
      try simp only [Act.put, List.setIfInBounds_toArray, List.set_cons_succ, List.set_cons_zero]
      refine ord_act rfl rfl (fun K hK => ?_)
      have hca : Chg (fun _ => False) wx (wx.drew.alloc (.cells #[] 62)) := (Chg.refl _ _).drew.alloc _
      have hnews : ∀ (j : Nat) u, (insCells body)[j]? = some u → (wx.drew.alloc (.cells #[] 62)).cell? (ad.add j) = some u := fun j u hu => by
        have hsx := (HS.out.1.kept HCX.out (.inr HS.out.2)).kept hca (.inr fun _ _ x => x)
        rcases hsx with ⟨⟨A', c', e⟩, _, h0⟩ | ⟨b, off, cap', e, _, _, _, hc⟩
        · rw [h0] at hu; cases hu
        · injection e with e1
          injection e1 with e1
          have : (⟨b, off, none⟩ : Addr).add j = ⟨b, off + j, none⟩ := by unfold Addr.add; split <;> simp_all
          rw [e1, this]
          exact hc j u hu
      refine wp_append_own (.tmp 48) (.tmp 49) 35 rfl 0 62 i1 _ 3 24 Try.underlying35 hj hy0 hy1 hy2 rfl (by omega) (.slice (some ⟨wx.heap.size, 0, none⟩) 0 0) 0 [] (by simp [Act.eval]) ⟨rfl, .inr ⟨wx.heap.size, 0, #[], rfl, Nat.zero_le _, heap_new _ _, Nat.le_refl _, by simp [maxLen], rfl, rfl⟩⟩ ad bl cb (insCells body) (by simp [Act.eval]) (by rw [HBL.out]; exact insCells_length _) hnews (insCells_one _) (by unfold maxLen; omega) (by omega) (by omega) ?_
      intro v1 w2 ho1 hg1 _ hat1
      simp only [Nat.zero_add, List.nil_append] at ho1
      have hc2 : Chg (fun _ => False) wx w2 := hca.grownBy hg1 (fun k hk hlt => by have hk : wx.heap.size = k := by injection hk
                                                                                   omega)
      have hn1 : ∀ k, v1.ownBlock = some k → wx.heap.size ≤ k := fun k hk => by
        rcases hat1 with e | e
        · rw [e] at hk
          have hk : wx.heap.size = k := by injection hk
          omega
        · rw [e] at hk
          injection hk with hk
          rw [← hk]
          exact hca.size
      have hS2 : w2.cell? ⟨r, 1, none⟩ = some (.slice (some ⟨w1.heap.size, 0, none⟩) 0 0) := hc2.cell hS0 (fun x => x)
      refine hK _ _ ⟨fun _ => hS2, ?_⟩
      clear hK K hnews hca hg1 hat1 hS1
      try simp only [Act.put, List.setIfInBounds_toArray, List.set_cons_succ, List.set_cons_zero]
      obtain ⟨B1, b1, hv1⟩ := (ownsRow_slice ho1).2
      subst hv1
      iterate 1 (refine ord_look rfl hS2 rfl (by intro w hS; go_simp; with_reducible rfl) (fun c a w h => h) ?_; simp only [Act.put, List.setIfInBounds_toArray, List.set_cons_succ, List.set_cons_zero])
      refine ord_act rfl rfl (fun K hK => ?_)
      go_simp
      have hS3 : (w2.alloc (.cells #[.int .i64 fn, .slice B1 bl b1] 50)).cell? ⟨r, 1, none⟩ = some (.slice (some ⟨w1.heap.size, 0, none⟩) 0 0) := cell_alloc hS2 _
      refine hK _ _ ⟨fun _ => hS3, ?_⟩
      clear hK K
      try simp only [Act.put, List.setIfInBounds_toArray, List.set_cons_succ, List.set_cons_zero]
      refine ord_act rfl rfl (fun K hK => ?_)
      have hc3 : Chg (fun _ => False) wx (w2.alloc (.cells #[.int .i64 fn, .slice B1 bl b1] 50)) := hc2.alloc _
      have hown : (w2.alloc (.cells #[.int .i64 fn, .slice B1 bl b1] 50)).ownsRow 0 50 2 (.slice (some ⟨w1.heap.size, 0, none⟩) 0 0) 0 (rents []) := by
        have := HX.out.own
        rw [← HN2.out] at this
        exact ownsRow_kept this hc3 (fun _ _ x => x)
      have hvr : (Value.slice (some ⟨w1.heap.size, 0, none⟩) 0 0).ownBlock ≠ some r := fun e => (HX.out.neL r e).2 rfl
      refine wp_append_lies _ (.tmp 46) (.tmp 52) 27 rfl 0 50 i0 _ 2 32 Try.underlying27 hi hz0 hz1 hz2 rfl (by omega) (.slice (some ⟨w1.heap.size, 0, none⟩) 0 0) 0 (rents []) (by simp [Act.eval]) hown ⟨w2.heap.size, 0, none⟩ 1 1 [.int .i64 fn, .slice B1 bl b1] (by simp [Act.eval]) rfl (World.news_of_block (cs := #[.int .i64 fn, .slice B1 bl b1]) (t := 50) (fr := (0, 0)) (heap_new _ _)) (by simp [Value.oneCell']) (by omega) (by unfold maxLen; omega) (by omega) (by omega) (w2.heap.size + 1) (by simp) ?_
      intro g cp w3 ho3 hg3 hat3 hlt3
      have hc4 : Chg (fun k => (Value.slice (some ⟨w1.heap.size, 0, none⟩) 0 0).ownBlock = some k) w2 w3 := Chg.grownBy (S := fun k => (Value.slice (some ⟨w1.heap.size, 0, none⟩) 0 0).ownBlock = some k) ((Chg.refl _ _).alloc _) hg3 (fun k hk _ => hk)
      have hS4 : w3.cell? ⟨r, 1, none⟩ = some (.slice (some ⟨w1.heap.size, 0, none⟩) 0 0) := hc4.cell hS2 hvr
      have fS4 : w3.frozen? ⟨r, 1, none⟩ = false := (hc4.frozen (p := ⟨r, 1, none⟩) (Nat.lt_of_lt_of_le hrx hc2.size) hvr).trans ((hc2.frozen (p := ⟨r, 1, none⟩) hrx (fun x => x)).trans fS0)
      have hmore : RCSt (w3.setCell ⟨r, 1, none⟩ (.slice (some ⟨g, 0, none⟩) (0 + 1) cp)) (fun k => (S k ∨ w.heap.size ≤ k) ∨ wx.heap.size ≤ k) r cap (.slice (some ⟨g, 0, none⟩) (0 + 1) cp) ([] ++ [⟨fn, body, .slice B1 bl b1⟩]) ∧ Chg (fun k => S k ∨ w.heap.size ≤ k) wx (w3.setCell ⟨r, 1, none⟩ (.slice (some ⟨g, 0, none⟩) (0 + 1) cp)) := by
        have h0e := HN2.out
        try subst h0e
        have hble := HBL.out
        subst hble
        exact HX.out.more hb hc2 ho1 hn1 ho3 hc4 (hat3.imp id (fun e => by omega))
      have HM := Lib.hid hmore
      clear hmore hown hc3 hS3 ho3 hg3 hat3 hc4 ho1 hn1
      refine hK _ _ ⟨fun _ => hS4, ?_⟩
      clear hK K
      try simp only [Act.put, List.setIfInBounds_toArray, List.set_cons_succ, List.set_cons_zero]
      iterate 2 (refine ord_look rfl hS4 rfl (by intro w hS; go_simp; with_reducible rfl) (fun c a w h => h) ?_; simp only [Act.put, List.setIfInBounds_toArray, List.set_cons_succ, List.set_cons_zero])
      refine ord_act rfl rfl (fun K hK => ?_)
      go_simp
      refine hK _ _ ⟨fun h => absurd h (by decide), ?_⟩
      clear hK K
      refine ord_end ?_
      try simp only [Act.put, List.setIfInBounds_toArray, List.set_cons_succ, List.set_cons_zero]
      go_wp2_with fail
      go_ret2
      obtain ⟨m1, m2⟩ := HM.out
      exact ⟨rfl, _, _, by exact m1.mono (fun k hk => hk.elim id (fun e => .inr (Nat.le_trans HCX.out.size e))), HCX.out.trans m2 (fun _ _ x => x) (fun k hk x => x.elim id (fun e => by omega))⟩
    · 
      have hd1 : w1.drew.cell? ⟨r, 1, none⟩ = _ := d1
      have hd2 : w1.drew.frozen? ⟨r, 1, none⟩ = false := d2
      have hnews : ∀ (j : Nat) u, (rents rest)[j]? = some u → (w1.drew.alloc (.cells #[] 50)).cell? ((⟨g, 2, none⟩ : Addr).add j) = some u := fun j u hu => by
        have hj := (List.getElem?_eq_some_iff.1 hu).1
        rw [rents_length] at hj
        have e : (⟨g, 2, none⟩ : Addr).add j = ⟨g, 2 + j, none⟩ := by unfold Addr.add; split <;> simp_all
        rw [e]
        refine cell_alloc ?_ _
        have hjr : j / 2 < rest.length := by omega
        obtain ⟨a1, a2⟩ := HAT.out w1 (Chg.refl _ _) (j / 2 + 1) (by simp; omega)
        obtain ⟨b1, b2⟩ := rents_get rest (j / 2) hjr
        simp only [List.getElem_cons_succ] at a1 a2
        rcases Nat.mod_two_eq_zero_or_one j with hmod | hmod
        · have ej : j = j / 2 * 2 := by omega
          rw [ej, b1] at hu
          injection hu with hu
          rw [← hu]
          have := a1
          rw [show 2 + j = (j / 2 + 1) * 2 by omega]
          exact this
        · have ej : j = j / 2 * 2 + 1 := by omega
          rw [ej, b2] at hu
          injection hu with hu
          rw [← hu]
          have := a2
          rw [show 2 + j = (j / 2 + 1) * 2 + 1 by omega]
          exact this
      have hro : (w1.drew.alloc (.cells #[] 50)).ownsRow 0 50 2 (.slice (some ⟨w1.heap.size, 0, none⟩) 0 0) 0 [] := ⟨rfl, .inr ⟨w1.heap.size, 0, #[], rfl, Nat.zero_le _, heap_new _ _, Nat.le_refl _, by simp [maxLen], rfl, rfl⟩⟩
      have HRO := Lib.hid hro
      have HNW := Lib.hid hnews
      clear hro hnews
      go_wp2_with (at_builtin; refine wpList_append_own_at _ rfl _ _ _ rfl 0 50 i0 _ 2 32 Try.underlying27 hi hz0 hz1 hz2 rfl (by omega) (.slice (some ⟨w1.heap.size, 0, none⟩) 0 0) 0 [] rfl HRO.out ⟨g, 2, none⟩ n2 (c1 - 1) (rents rest) rfl (by rw [rents_length, HN2.out]) HNW.out HON.out (by unfold maxLen; omega) (by omega) (by omega) ?_; intro v1 w2 ho1 hg1 _ hat1; simp only [Nat.zero_add, List.nil_append] at ho1; have hc2 : Chg (fun _ => False) w1 w2 := Chg.grownBy ((Chg.refl _ _).drew.alloc _) hg1 (fun k hk hlt => absurd hlt (by have hk : w1.heap.size = k := Option.some.inj hk; omega)); have hS2 := hc2.cell d1 (fun x => x); have fS2 := (hc2.frozen (p := ⟨r, 1, none⟩) hr1 (fun x => x)).trans d2; obtain ⟨_, D1, d9, rfl⟩ := ownsRow_slice ho1)
      have hn1 : ∀ k, (Value.slice D1 n2 d9).ownBlock = some k → w1.heap.size ≤ k := fun k hk => by
        rcases hat1 with e | e
        · rw [e] at hk
          exact Nat.le_of_eq (Option.some.inj hk)
        · rw [e] at hk
          have hk := Option.some.inj hk
          rw [← hk]
          simp
      have hless := H1.out.less hc2 (by rw [← HN2.out]; exact ho1) hn1
      obtain ⟨wx, hwx⟩ : ∃ wx, wx = w2.setCell ⟨r, 1, none⟩ (.slice D1 n2 d9) := ⟨_, rfl⟩
      rw [← hwx] at hless ⊢
      have hx := hless.1.mono (S' := fun k => S k ∨ w.heap.size ≤ k) (fun k hk => hk.elim id (fun e => .inr (Nat.le_trans HC.out.size e)))
      have HCX : Hid (Chg S w wx) := Lib.hid (HC.out.trans hless.2 (fun _ _ x => x) (fun k hk x => x.elim id (fun e => absurd hk (by omega))))
      clear hless hn1 ho1 hc2 hS2 fS2 hwx d0 d1 d2 hd1 hd2 hat0 hg1 hat1

      have d1x := cell_of_block hx.blk 1
      simp at d1x
      have fx := frozen_of_block hx.blk 1
      have hrx := lt_of_heap hx.blk
      have HX := Lib.hid hx
      clear hx
      have hS0 : wx.drew.cell? ⟨r, 1, none⟩ = some (.slice D1 n2 d9) := d1x
      have fS0 : wx.drew.frozen? ⟨r, 1, none⟩ = false := fx
      clear d1x fx
      refine wp_region_ord (S := fun w' => w'.cell? ⟨r, 1, none⟩ = some (.slice D1 n2 d9)) (N := fun i => i != 14) (by kernel_rfl) [(0, true), (1, true), (2, true), (3, true), (4, true), (5, true), (7, true), (6, false), (8, false), (9, true), (10, false), (11, false), (12, true), (13, true), (14, false)] (by kernel_rfl) ?_
      iterate 7 (refine ord_look rfl hS0 rfl (by intro w hS; go_simp; with_reducible rfl) (fun c a w h => h) ?_; simp only [Act.put, List.setIfInBounds_toArray, List.set_cons_succ, List.set_cons_zero])
      refine ord_act rfl rfl (fun K hK => ?_)
      go_simp
      have hS1 : (wx.drew.alloc (.cells #[] 62)).cell? ⟨r, 1, none⟩ = some (.slice D1 n2 d9) := cell_alloc hS0 _
      refine hK _ _ ⟨fun _ => hS1, ?_⟩
      clear hK K
      try simp only [Act.put, List.setIfInBounds_toArray, List.set_cons_succ, List.set_cons_zero]
      refine ord_act rfl rfl (fun K hK => ?_)
      have hca : Chg (fun _ => False) wx (wx.drew.alloc (.cells #[] 62)) := (Chg.refl _ _).drew.alloc _
      have hnews : ∀ (j : Nat) u, (insCells body)[j]? = some u → (wx.drew.alloc (.cells #[] 62)).cell? (ad.add j) = some u := fun j u hu => by
        have hsx := (HS.out.1.kept HCX.out (.inr HS.out.2)).kept hca (.inr fun _ _ x => x)
        rcases hsx with ⟨⟨A', c', e⟩, _, h0⟩ | ⟨b, off, cap', e, _, _, _, hc⟩
        · rw [h0] at hu; cases hu
        · injection e with e1
          injection e1 with e1
          have : (⟨b, off, none⟩ : Addr).add j = ⟨b, off + j, none⟩ := by unfold Addr.add; split <;> simp_all
          rw [e1, this]
          exact hc j u hu
      refine wp_append_own (.tmp 48) (.tmp 49) 35 rfl 0 62 i1 _ 3 24 Try.underlying35 hj hy0 hy1 hy2 rfl (by omega) (.slice (some ⟨wx.heap.size, 0, none⟩) 0 0) 0 [] (by simp [Act.eval]) ⟨rfl, .inr ⟨wx.heap.size, 0, #[], rfl, Nat.zero_le _, heap_new _ _, Nat.le_refl _, by simp [maxLen], rfl, rfl⟩⟩ ad bl cb (insCells body) (by simp [Act.eval]) (by rw [HBL.out]; exact insCells_length _) hnews (insCells_one _) (by unfold maxLen; omega) (by omega) (by omega) ?_
      intro v1 w2 ho1 hg1 _ hat1
      simp only [Nat.zero_add, List.nil_append] at ho1
      have hc2 : Chg (fun _ => False) wx w2 := hca.grownBy hg1 (fun k hk hlt => by have hk : wx.heap.size = k := by injection hk
                                                                                   omega)
      have hn1 : ∀ k, v1.ownBlock = some k → wx.heap.size ≤ k := fun k hk => by
        rcases hat1 with e | e
        · rw [e] at hk
          have hk : wx.heap.size = k := by injection hk
          omega
        · rw [e] at hk
          injection hk with hk
          rw [← hk]
          exact hca.size
      have hS2 : w2.cell? ⟨r, 1, none⟩ = some (.slice D1 n2 d9) := hc2.cell hS0 (fun x => x)
      refine hK _ _ ⟨fun _ => hS2, ?_⟩
      clear hK K hnews hca hg1 hat1 hS1
      try simp only [Act.put, List.setIfInBounds_toArray, List.set_cons_succ, List.set_cons_zero]
      obtain ⟨B1, b1, hv1⟩ := (ownsRow_slice ho1).2
      subst hv1
      iterate 1 (refine ord_look rfl hS2 rfl (by intro w hS; go_simp; with_reducible rfl) (fun c a w h => h) ?_; simp only [Act.put, List.setIfInBounds_toArray, List.set_cons_succ, List.set_cons_zero])
      refine ord_act rfl rfl (fun K hK => ?_)
      go_simp
      have hS3 : (w2.alloc (.cells #[.int .i64 fn, .slice B1 bl b1] 50)).cell? ⟨r, 1, none⟩ = some (.slice D1 n2 d9) := cell_alloc hS2 _
      refine hK _ _ ⟨fun _ => hS3, ?_⟩
      clear hK K
      try simp only [Act.put, List.setIfInBounds_toArray, List.set_cons_succ, List.set_cons_zero]
      refine ord_act rfl rfl (fun K hK => ?_)
      have hc3 : Chg (fun _ => False) wx (w2.alloc (.cells #[.int .i64 fn, .slice B1 bl b1] 50)) := hc2.alloc _
      have hown : (w2.alloc (.cells #[.int .i64 fn, .slice B1 bl b1] 50)).ownsRow 0 50 2 (.slice D1 n2 d9) n2 (rents rest) := by
        have := HX.out.own
        rw [← HN2.out] at this
        exact ownsRow_kept this hc3 (fun _ _ x => x)
      have hvr : (Value.slice D1 n2 d9).ownBlock ≠ some r := fun e => (HX.out.neL r e).2 rfl
      refine wp_append_lies _ (.tmp 46) (.tmp 52) 27 rfl 0 50 i0 _ 2 32 Try.underlying27 hi hz0 hz1 hz2 rfl (by omega) (.slice D1 n2 d9) n2 (rents rest) (by simp [Act.eval]) hown ⟨w2.heap.size, 0, none⟩ 1 1 [.int .i64 fn, .slice B1 bl b1] (by simp [Act.eval]) rfl (World.news_of_block (cs := #[.int .i64 fn, .slice B1 bl b1]) (t := 50) (fr := (0, 0)) (heap_new _ _)) (by simp [Value.oneCell']) (by omega) (by unfold maxLen; omega) (by omega) (by omega) (w2.heap.size + 1) (by simp) ?_
      intro g cp w3 ho3 hg3 hat3 hlt3
      have hc4 : Chg (fun k => (Value.slice D1 n2 d9).ownBlock = some k) w2 w3 := Chg.grownBy (S := fun k => (Value.slice D1 n2 d9).ownBlock = some k) ((Chg.refl _ _).alloc _) hg3 (fun k hk _ => hk)
      have hS4 : w3.cell? ⟨r, 1, none⟩ = some (.slice D1 n2 d9) := hc4.cell hS2 hvr
      have fS4 : w3.frozen? ⟨r, 1, none⟩ = false := (hc4.frozen (p := ⟨r, 1, none⟩) (Nat.lt_of_lt_of_le hrx hc2.size) hvr).trans ((hc2.frozen (p := ⟨r, 1, none⟩) hrx (fun x => x)).trans fS0)
      have hmore : RCSt (w3.setCell ⟨r, 1, none⟩ (.slice (some ⟨g, 0, none⟩) (n2 + 1) cp)) (fun k => (S k ∨ w.heap.size ≤ k) ∨ wx.heap.size ≤ k) r cap (.slice (some ⟨g, 0, none⟩) (n2 + 1) cp) (rest ++ [⟨fn, body, .slice B1 bl b1⟩]) ∧ Chg (fun k => S k ∨ w.heap.size ≤ k) wx (w3.setCell ⟨r, 1, none⟩ (.slice (some ⟨g, 0, none⟩) (n2 + 1) cp)) := by
        have hn2e := HN2.out
        try subst hn2e
        have hble := HBL.out
        subst hble
        exact HX.out.more hb hc2 ho1 hn1 ho3 hc4 (hat3.imp id (fun e => by omega))
      have HM := Lib.hid hmore
      clear hmore hown hc3 hS3 ho3 hg3 hat3 hc4 ho1 hn1
      refine hK _ _ ⟨fun _ => hS4, ?_⟩
      clear hK K
      try simp only [Act.put, List.setIfInBounds_toArray, List.set_cons_succ, List.set_cons_zero]
      iterate 2 (refine ord_look rfl hS4 rfl (by intro w hS; go_simp; with_reducible rfl) (fun c a w h => h) ?_; simp only [Act.put, List.setIfInBounds_toArray, List.set_cons_succ, List.set_cons_zero])
      refine ord_act rfl rfl (fun K hK => ?_)
      go_simp
      refine hK _ _ ⟨fun h => absurd h (by decide), ?_⟩
      clear hK K
      refine ord_end ?_
      try simp only [Act.put, List.setIfInBounds_toArray, List.set_cons_succ, List.set_cons_zero]
      go_wp2_with fail
      go_ret2
      obtain ⟨m1, m2⟩ := HM.out
      exact ⟨rfl, _, _, by exact m1.mono (fun k hk => hk.elim id (fun e => .inr (Nat.le_trans HCX.out.size e))), HCX.out.trans m2 (fun _ _ x => x) (fun k hk x => x.elim id (fun e => by omega))⟩
  · have hpe : (0, false, es1) = (gone, ev, es') := by
      have hpv := HP.out
      rwa [if_neg (by rw [← HN.out]; exact hq)] at hpv
    injection hpe with e1 hpe
    injection hpe with e2 e3
    subst e1 e2 e3
    go_region
    go_wp2_with fail
    obtain ⟨wx, hwx⟩ : ∃ wx, wx = w1.drew := ⟨_, rfl⟩
    have hx : RCSt wx (fun k => S k ∨ w.heap.size ≤ k) r cap (.slice A1 n c1) es1 := by rw [hwx]; exact H1.out.kept (T := fun _ => False) (Chg.refl _ _).drew (fun _ _ x => x)
    have HCX : Hid (Chg S w wx) := Lib.hid (by rw [hwx]; exact HC.out.drew)
    rw [← hwx]
    clear hwx d0 d1
    have d1x := cell_of_block hx.blk 1
    simp at d1x
    have fx := frozen_of_block hx.blk 1
    have hrx := lt_of_heap hx.blk
    have HX := Lib.hid hx
    clear hx
    have hS0 : wx.drew.cell? ⟨r, 1, none⟩ = some (.slice A1 n c1) := d1x
    have fS0 : wx.drew.frozen? ⟨r, 1, none⟩ = false := fx
    clear d1x fx
    refine wp_region_ord (S := fun w' => w'.cell? ⟨r, 1, none⟩ = some (.slice A1 n c1)) (N := fun i => i != 14) (by kernel_rfl) [(0, true), (1, true), (2, true), (3, true), (4, true), (5, true), (7, true), (6, false), (8, false), (9, true), (10, false), (11, false), (12, true), (13, true), (14, false)] (by kernel_rfl) ?_
    iterate 7 (refine ord_look rfl hS0 rfl (by intro w hS; go_simp; with_reducible rfl) (fun c a w h => h) ?_; simp only [Act.put, List.setIfInBounds_toArray, List.set_cons_succ, List.set_cons_zero])
    refine ord_act rfl rfl (fun K hK => ?_)
    go_simp
    have hS1 : (wx.drew.alloc (.cells #[] 62)).cell? ⟨r, 1, none⟩ = some (.slice A1 n c1) := cell_alloc hS0 _
    refine hK _ _ ⟨fun _ => hS1, ?_⟩
    clear hK K
    try simp only [Act.put, List.setIfInBounds_toArray, List.set_cons_succ, List.set_cons_zero]
    refine ord_act rfl rfl (fun K hK => ?_)
    have hca : Chg (fun _ => False) wx (wx.drew.alloc (.cells #[] 62)) := (Chg.refl _ _).drew.alloc _
    have hnews : ∀ (j : Nat) u, (insCells body)[j]? = some u → (wx.drew.alloc (.cells #[] 62)).cell? (ad.add j) = some u := fun j u hu => by
      have hsx := (HS.out.1.kept HCX.out (.inr HS.out.2)).kept hca (.inr fun _ _ x => x)
      rcases hsx with ⟨⟨A', c', e⟩, _, h0⟩ | ⟨b, off, cap', e, _, _, _, hc⟩
      · rw [h0] at hu; cases hu
      · injection e with e1
        injection e1 with e1
        have : (⟨b, off, none⟩ : Addr).add j = ⟨b, off + j, none⟩ := by unfold Addr.add; split <;> simp_all
        rw [e1, this]
        exact hc j u hu
    refine wp_append_own (.tmp 48) (.tmp 49) 35 rfl 0 62 i1 _ 3 24 Try.underlying35 hj hy0 hy1 hy2 rfl (by omega) (.slice (some ⟨wx.heap.size, 0, none⟩) 0 0) 0 [] (by simp [Act.eval]) ⟨rfl, .inr ⟨wx.heap.size, 0, #[], rfl, Nat.zero_le _, heap_new _ _, Nat.le_refl _, by simp [maxLen], rfl, rfl⟩⟩ ad bl cb (insCells body) (by simp [Act.eval]) (by rw [HBL.out]; exact insCells_length _) hnews (insCells_one _) (by unfold maxLen; omega) (by omega) (by omega) ?_
    intro v1 w2 ho1 hg1 _ hat1
    simp only [Nat.zero_add, List.nil_append] at ho1
    have hc2 : Chg (fun _ => False) wx w2 := hca.grownBy hg1 (fun k hk hlt => by have hk : wx.heap.size = k := by injection hk
                                                                                 omega)
    have hn1 : ∀ k, v1.ownBlock = some k → wx.heap.size ≤ k := fun k hk => by
      rcases hat1 with e | e
      · rw [e] at hk
        have hk : wx.heap.size = k := by injection hk
        omega
      · rw [e] at hk
        injection hk with hk
        rw [← hk]
        exact hca.size
    have hS2 : w2.cell? ⟨r, 1, none⟩ = some (.slice A1 n c1) := hc2.cell hS0 (fun x => x)
    refine hK _ _ ⟨fun _ => hS2, ?_⟩
    clear hK K hnews hca hg1 hat1 hS1
    try simp only [Act.put, List.setIfInBounds_toArray, List.set_cons_succ, List.set_cons_zero]
    obtain ⟨B1, b1, hv1⟩ := (ownsRow_slice ho1).2
    subst hv1
    iterate 1 (refine ord_look rfl hS2 rfl (by intro w hS; go_simp; with_reducible rfl) (fun c a w h => h) ?_; simp only [Act.put, List.setIfInBounds_toArray, List.set_cons_succ, List.set_cons_zero])
    refine ord_act rfl rfl (fun K hK => ?_)
    go_simp
    have hS3 : (w2.alloc (.cells #[.int .i64 fn, .slice B1 bl b1] 50)).cell? ⟨r, 1, none⟩ = some (.slice A1 n c1) := cell_alloc hS2 _
    refine hK _ _ ⟨fun _ => hS3, ?_⟩
    clear hK K
    try simp only [Act.put, List.setIfInBounds_toArray, List.set_cons_succ, List.set_cons_zero]
    refine ord_act rfl rfl (fun K hK => ?_)
    have hc3 : Chg (fun _ => False) wx (w2.alloc (.cells #[.int .i64 fn, .slice B1 bl b1] 50)) := hc2.alloc _
    have hown : (w2.alloc (.cells #[.int .i64 fn, .slice B1 bl b1] 50)).ownsRow 0 50 2 (.slice A1 n c1) n (rents es1) := by
      have := HX.out.own
      rw [← HN.out] at this
      exact ownsRow_kept this hc3 (fun _ _ x => x)
    have hvr : (Value.slice A1 n c1).ownBlock ≠ some r := fun e => (HX.out.neL r e).2 rfl
    refine wp_append_lies _ (.tmp 46) (.tmp 52) 27 rfl 0 50 i0 _ 2 32 Try.underlying27 hi hz0 hz1 hz2 rfl (by omega) (.slice A1 n c1) n (rents es1) (by simp [Act.eval]) hown ⟨w2.heap.size, 0, none⟩ 1 1 [.int .i64 fn, .slice B1 bl b1] (by simp [Act.eval]) rfl (World.news_of_block (cs := #[.int .i64 fn, .slice B1 bl b1]) (t := 50) (fr := (0, 0)) (heap_new _ _)) (by simp [Value.oneCell']) (by omega) (by unfold maxLen; omega) (by omega) (by omega) (w2.heap.size + 1) (by simp) ?_
    intro g cp w3 ho3 hg3 hat3 hlt3
    have hc4 : Chg (fun k => (Value.slice A1 n c1).ownBlock = some k) w2 w3 := Chg.grownBy (S := fun k => (Value.slice A1 n c1).ownBlock = some k) ((Chg.refl _ _).alloc _) hg3 (fun k hk _ => hk)
    have hS4 : w3.cell? ⟨r, 1, none⟩ = some (.slice A1 n c1) := hc4.cell hS2 hvr
    have fS4 : w3.frozen? ⟨r, 1, none⟩ = false := (hc4.frozen (p := ⟨r, 1, none⟩) (Nat.lt_of_lt_of_le hrx hc2.size) hvr).trans ((hc2.frozen (p := ⟨r, 1, none⟩) hrx (fun x => x)).trans fS0)
    have hmore : RCSt (w3.setCell ⟨r, 1, none⟩ (.slice (some ⟨g, 0, none⟩) (n + 1) cp)) (fun k => (S k ∨ w.heap.size ≤ k) ∨ wx.heap.size ≤ k) r cap (.slice (some ⟨g, 0, none⟩) (n + 1) cp) (es1 ++ [⟨fn, body, .slice B1 bl b1⟩]) ∧ Chg (fun k => S k ∨ w.heap.size ≤ k) wx (w3.setCell ⟨r, 1, none⟩ (.slice (some ⟨g, 0, none⟩) (n + 1) cp)) := by
      have hne := HN.out
      try subst hne
      have hble := HBL.out
      subst hble
      exact HX.out.more hb hc2 ho1 hn1 ho3 hc4 (hat3.imp id (fun e => by omega))
    have HM := Lib.hid hmore
    clear hmore hown hc3 hS3 ho3 hg3 hat3 hc4 ho1 hn1
    refine hK _ _ ⟨fun _ => hS4, ?_⟩
    clear hK K
    try simp only [Act.put, List.setIfInBounds_toArray, List.set_cons_succ, List.set_cons_zero]
    iterate 2 (refine ord_look rfl hS4 rfl (by intro w hS; go_simp; with_reducible rfl) (fun c a w h => h) ?_; simp only [Act.put, List.setIfInBounds_toArray, List.set_cons_succ, List.set_cons_zero])
    refine ord_act rfl rfl (fun K hK => ?_)
    go_simp
    refine hK _ _ ⟨fun h => absurd h (by decide), ?_⟩
    clear hK K
    refine ord_end ?_
    try simp only [Act.put, List.setIfInBounds_toArray, List.set_cons_succ, List.set_cons_zero]
    go_wp2_with fail
    go_ret2
    obtain ⟨m1, m2⟩ := HM.out
    exact ⟨rfl, _, _, by exact m1.mono (fun k hk => hk.elim id (fun e => .inr (Nat.le_trans HCX.out.size e))), HCX.out.trans m2 (fun _ _ x => x) (fun k hk x => x.elim id (fun e => by omega))⟩
end Go.Proofs.Ythmjmggeihonnaa
