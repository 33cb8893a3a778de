/- label: plain: an expression made plain. -/
import Derived.Test.YtnpmgnfohaeonaaLabRow
import Derived.Maps.AppendAt
namespace Go.Proofs.Ytnpmgnfohaeonaa
set_option linter.unusedVariables false
set_option linter.unusedSimpArgs false
open Go.ChangeShapes Go.WideShapes Go.ChangeAt Go.RowKit

/-- rows that came in, so not too long -/
inductive SmE : ExprT → Prop
  | mk (op n : Int) (name : ByteArray) (l : List ExprT) (hl : l.length * 56 ≤ 140737488351232) (h : ∀ (j : Nat) (t : ExprT), l[j]? = some t → SmE t) : SmE (.mk op n name l)
def rdExprS : Rd ExprT := ⟨4, fun w t cs => IsExpr w (Lt w) t cs ∧ SmE t⟩
theorem opens_exprS : ∀ n, Rd.Opens Try.prog 28 rdExprS n
  | 0 => fun H enc W base spare held fuel cs x hf h hw => by
    obtain ⟨m, hm, _⟩ := Rd.open_struct [3, 2, 9, 26] Try.underlying28 (by kernel_rfl) (by kernel_rfl) (by kernel_rfl) h hw
    omega
  | n + 1 => fun H enc W base spare held fuel cs x hf h hw => by
    obtain ⟨m, hm, hl, hp⟩ := Rd.open_struct [3, 2, 9, 26] Try.underlying28 (by kernel_rfl) (by kernel_rfl) (by kernel_rfl) h hw
    match cs, hl with
    | [c0, c1, c2, c3], _ =>
      obtain ⟨y0, h0, _⟩ := hp 0 _ c0 rfl rfl
      obtain ⟨y1, h1, _⟩ := hp 1 _ c1 rfl rfl
      obtain ⟨y2, h2, w2⟩ := hp 2 _ c2 rfl rfl
      obtain ⟨y3, h3, w3⟩ := hp 3 _ c3 rfl rfl
      obtain ⟨a0, e0, _, _⟩ := DataW.trod_int Try.underlying3 h0
      obtain ⟨a1, e1, _, _⟩ := DataW.trod_int Try.underlying2 h1
      obtain ⟨s, ⟨e2, hs⟩, _⟩ := Rd.opens_str Try.underlying9 m H enc W base spare held m [c2] y2 (Nat.le_refl _) h2 w2
      obtain ⟨xs, hk, _⟩ := Rd.opens_slice (bytes := 56) Try.underlying26 (by kernel_rfl) (by decide) (by kernel_rfl) (opens_exprS n) H enc W base spare held m [c3] y3 (by omega) h3 w3
      obtain ⟨A, cp, e3, g1, g2, g3⟩ := hk
      obtain ⟨f, k1, k2⟩ := rowAt_of (d := rdExprS) g1 (by omega) (by decide) g3
      simp only [List.cons.injEq, and_true] at e0 e1 e2 e3
      subst e0 e1 e2 e3
      exact ⟨.mk a0 a1 s xs, ⟨.mk a0 a1 s xs A cp f (Nat.le_trans hs (by decide)) k1 (fun j x hx => (k2 j x hx).1), .mk a0 a1 s xs g2 (fun j x hx => (k2 j x hx).2)⟩, rfl⟩

def pop (op : Int) : Int := if op = 5 ∨ op = 4 ∨ op = 11 ∨ op = 12 then 8 else op
def plainT : Nat → ExprT → ExprT
  | 0, .mk op n nm l => .mk (pop op) n nm []
  | d + 1, .mk op n nm l => .mk (pop op) n nm (l.map (plainT d))

theorem flat4 (rows : List (List Value)) (hs : ∀ ds ∈ rows, ds.length = 4) (j i : Nat) (ds : List Value) (h : rows[j]? = some ds) (u : Value) (hu : ds[i]? = some u) : rows.flatten[j * 4 + i]? = some u := by
  induction rows generalizing j with
  | nil => simp at h
  | cons r rs ih =>
    have hr : r.length = 4 := hs r (by simp)
    cases j with
    | zero =>
      simp at h
      subst h
      have hi := (List.getElem?_eq_some_iff.1 hu).1
      rw [List.flatten_cons, List.getElem?_append_left (by omega)]
      simpa using hu
    | succ j =>
      rw [List.flatten_cons, List.getElem?_append_right (by omega), hr, show (j + 1) * 4 + i - 4 = j * 4 + i by omega]
      exact ih (fun ds hd => hs ds (by simp [hd])) j (by simpa using h)

/-- an expression that is built: its box, and its row so far -/
structure PlI (w : World) (base o : Nat) (h0 h1 h2 V : Value) (rows : List (List Value)) (X : Nat → Prop) (ts : List ExprT) : Prop where
  box : w.heap[o]? = some (.cells #[h0, h1, h2, V] 28 (0, 0))
  ob : o < base
  row : w.ownsRow base 28 4 V ts.length rows.flatten
  len : rows.length = ts.length
  sz : ∀ ds ∈ rows, ds.length = 4
  is : ∀ (i : Nat) (t : ExprT), ts[i]? = some t → ∃ ds, rows[i]? = some ds ∧ IsExpr w X t ds
  foot : ∀ k, X k → base ≤ k ∧ k < w.heap.size ∧ V.ownBlock ≠ some k
theorem PlI.keep {w w' : World} {base o : Nat} {h0 h1 h2 V : Value} {rows : List (List Value)} {X : Nat → Prop} {ts : List ExprT} (h : PlI w base o h0 h1 h2 V rows X ts) (hb : Below w.heap.size w w') : PlI w' base o h0 h1 h2 V rows X ts :=
  ⟨(Below.chg hb).heap h.box (fun x => x), h.ob, ownsRow_kept h.row (Below.chg hb) (fun _ _ x => x), h.len, h.sz, fun i t ht => by
    obtain ⟨ds, e, hi⟩ := h.is i t ht
    exact ⟨ds, e, hi.kept (Below.chg hb) (fun _ _ x => x)⟩, fun k hk => ⟨(h.foot k hk).1, Nat.lt_of_lt_of_le (h.foot k hk).2.1 hb.size, (h.foot k hk).2.2⟩⟩
theorem PlI.start {w : World} {base o : Nat} {h0 h1 h2 : Value} (hb : w.heap[o]? = some (.cells #[h0, h1, h2, .slice none 0 0] 28 (0, 0))) (ho : o < base) : PlI w base o h0 h1 h2 (.slice none 0 0) [] (fun _ => False) [] :=
  ⟨hb, ho, World.ownsRow_nil w base _ 4, rfl, by simp, by simp, fun k hk => hk.elim⟩
/-- one more: w1 behind the call, wx behind the two new blocks, w2 behind the append -/
theorem PlI.step {wr w1 wx w2 : World} {base o : Nat} {h0 h1 h2 V V' : Value} {rows : List (List Value)} {X : Nat → Prop} {ts : List ExprT} {t : ExprT} {ds : List Value} (h : PlI wr base o h0 h1 h2 V rows X ts) (hb1 : Below wr.heap.size wr w1) (hbase : base ≤ wr.heap.size)
    (ht : IsExpr w1 (fun k => wr.heap.size ≤ k ∧ k < w1.heap.size) t ds) (hl : ds.length = 4) (hbx : Below w1.heap.size w1 wx) (hrow : w2.ownsRow base 28 4 V' (ts.length + 1) (rows.flatten ++ ds)) (hg : wx.grownBy w2 V.ownBlock) (hat : V'.ownBlock = V.ownBlock ∨ V'.ownBlock = some wx.heap.size) :
    PlI (w2.setCell ⟨o, 3, none⟩ V') base o h0 h1 h2 V' (rows ++ [ds]) (fun k => X k ∨ (wr.heap.size ≤ k ∧ k < w1.heap.size)) (ts ++ [t]) ∧ Chg (fun k => k = o ∨ V.ownBlock = some k) wr (w2.setCell ⟨o, 3, none⟩ V') := by
  have h1' := h.keep hb1
  have hx := h1'.keep hbx
  have hcg : Chg (fun k => V.ownBlock = some k) wx w2 := Chg.of_grown hg
  have hVo : ∀ k, V.ownBlock = some k → base ≤ k := fun k hk => (hx.row.lt k hk).1
  have hVlt : ∀ k, V.ownBlock = some k → k < wr.heap.size := fun k hk => ownsRow_lt h.row k hk
  have hbox2 := hcg.heap hx.box (fun e => by have := hVo o e; have := h.ob; omega)
  have hV'o : ∀ k, V'.ownBlock = some k → ¬ k = o := fun k hk e => by
    have := (hrow.lt k hk).1
    have := h.ob
    omega
  have hs1 := hb1.size
  have hsx := hbx.size
  have hs2 := hg.size
  have hset : Chg (fun k => k = o) w2 (w2.setCell ⟨o, 3, none⟩ V') := Chg.set_cell ⟨o, 3, none⟩ V'
  have htx := ht.kept (Below.chg hbx) (fun _ _ x => x)
  have hone : ∀ k, (X k ∨ (wr.heap.size ≤ k ∧ k < w1.heap.size)) → base ≤ k ∧ k < w1.heap.size ∧ V.ownBlock ≠ some k := fun k hk => by
    rcases hk with hk | ⟨hk, hk2⟩
    · have := h.foot k hk
      exact ⟨this.1, by omega, this.2.2⟩
    · exact ⟨by omega, hk2, fun e => by have := hVlt k e; omega⟩
  have hc2 : Chg (fun k => k = o ∨ V.ownBlock = some k) wx (w2.setCell ⟨o, 3, none⟩ V') := hcg.trans hset (fun i _ e => .inr e) (fun i _ e => .inl e)
  refine ⟨⟨?_, h.ob, ?_, ?_, ?_, ?_, ?_⟩, ?_⟩
  · exact heap_set hbox2 3 V'
  · have := ownsRow_kept hrow hset hV'o
    rw [List.length_append, List.flatten_append]
    simpa using this
  · rw [List.length_append, List.length_append, h.len]; rfl
  · intro d hd
    rcases List.mem_append.1 hd with hd | hd
    · exact h.sz d hd
    · rw [List.mem_singleton.1 hd]; exact hl
  · intro i t' hi
    by_cases hlt : i < ts.length
    · rw [List.getElem?_append_left hlt] at hi
      obtain ⟨d, e, hie⟩ := hx.is i t' hi
      refine ⟨d, by rw [List.getElem?_append_left (by rw [h.len]; exact hlt)]; exact e, (hie.kept hc2 (fun k hk e => ?_)).mono (fun k hk => .inl hk)⟩
      have := h.foot k hk
      have := h.ob
      rcases e with e | e
      · omega
      · exact (h.foot k hk).2.2 e
    · have hi0 : i = ts.length := by
        have := (List.getElem?_eq_some_iff.1 hi).1
        rw [List.length_append, List.length_singleton] at this
        omega
      subst hi0
      rw [List.getElem?_append_right (Nat.le_refl _), Nat.sub_self] at hi
      injection hi with hi
      subst hi
      refine ⟨ds, by rw [List.getElem?_append_right (by rw [h.len]; exact Nat.le_refl _), h.len, Nat.sub_self]; rfl, (htx.kept hc2 (fun k hk e => ?_)).mono (fun k hk => .inr hk)⟩
      have := hone k (.inr hk)
      have := h.ob
      rcases e with e | e
      · omega
      · exact (hone k (.inr hk)).2.2 e
  · intro k hk
    have hk1 := hone k hk
    have : (w2.setCell ⟨o, 3, none⟩ V').heap.size = w2.heap.size := by simp
    refine ⟨hk1.1, by omega, fun e => ?_⟩
    rcases hat with ha | ha
    · rw [ha] at e; exact hk1.2.2 e
    · rw [ha] at e; injection e with e; omega
  · exact ((Below.chg hb1).then (Below.chg hbx)).trans hc2 (fun _ _ x => x.elim) (fun _ _ x => x)
/-- the whole -/
theorem PlI.done {w : World} {base o : Nat} {op n : Int} {nm : ByteArray} {V : Value} {rows : List (List Value)} {X : Nat → Prop} {ts : List ExprT} (h : PlI w base o (.int .i64 op) (.int .i64 n) (.string nm) V rows X ts) (hn : nm.size ≤ 140737488355327) (hm : ts.length ≤ 8796093022208) :
    IsExpr w (fun k => base ≤ k ∧ k < w.heap.size) (.mk op n nm ts) [.int .i64 op, .int .i64 n, .string nm, V] := by
  have hV : ∃ A c, V = .slice A ts.length c ∧ ts.length ≤ c := by
    rcases h.row.2 with ⟨e, h0⟩ | ⟨g, cap, cur, e, _, _, h1, _⟩
    · exact ⟨none, 0, by rw [e, h0], by omega⟩
    · exact ⟨_, cap, e, h1⟩
  obtain ⟨A, c, rfl, hc⟩ := hV
  refine .mk op n nm ts A c (fun j => rows.getD j []) hn ⟨hc, hm, fun h0 => ?_⟩ (fun j x hx => ?_)
  · obtain ⟨g, cap, e, hlt, hcell⟩ := ownsRow_at h.row h0
    have hb := (h.row.lt g (by rw [e]; rfl)).1
    injection e with e1 e2 e3
    subst e1
    refine ⟨g, 0, rfl, fun j hj => ⟨⟨hb, hlt⟩, hlt, fun i u hu => ?_⟩⟩
    rw [Nat.zero_add]
    have hj2 : j < rows.length := by rw [h.len]; exact hj
    rw [List.getD_eq_getElem?_getD, List.getElem?_eq_getElem hj2] at hu
    exact hcell _ _ (flat4 rows h.sz j i rows[j] (List.getElem?_eq_getElem hj2) u hu)
  · obtain ⟨ds, e, hi⟩ := h.is j x hx
    simp only [List.getD_eq_getElem?_getD, e, Option.getD_some]
    exact hi.mono (fun k hk => ⟨(h.foot k hk).1, (h.foot k hk).2.1⟩)
end Go.Proofs.Ytnpmgnfohaeonaa
