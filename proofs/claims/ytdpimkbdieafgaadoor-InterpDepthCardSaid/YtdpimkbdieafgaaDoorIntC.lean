/- interp: the machine in memory. -/
import Derived.Test.YtdpimkbdieafgaaDoorIntB
import Derived.Test.YtdpimkbdieafgaaDoorHeap
namespace Go.Proofs.YtdpimkbdieafgaaDoor
set_option linter.unusedVariables false
set_option linter.unusedSimpArgs false
open Go.RowKit

/-- numbers that a slice has (memory that is only read) -/
def NumSrc (w : World) (V : Value) (l : List Int) : Prop :=
  ∃ A c, V = .slice A l.length c ∧ l.length ≤ c ∧ c ≤ maxLen ∧ (0 < l.length → ∃ b off, A = some ⟨b, off, none⟩ ∧ ∀ (j : Nat) x, l[j]? = some x → w.cell? ⟨b, off + j, none⟩ = some (.int .i64 x))
theorem NumSrc.keep {w w' : World} {V : Value} {l : List Int} (h : NumSrc w V l) (hb : Below w.heap.size w w') : NumSrc w' V l := by
  obtain ⟨A, c, e, h1, h2, h3⟩ := h
  refine ⟨A, c, e, h1, h2, fun h0 => ?_⟩
  obtain ⟨b, off, e2, h4⟩ := h3 h0
  exact ⟨b, off, e2, fun j x hx => (Below.chg hb).cell (h4 j x hx) (fun x => x)⟩

/-- what a machine has beside its frames -/
structure GS where
  now : Int
  fuel : Int
  q : Int
  xss : List (List Int)
  i0 : List Int
  i1 : List Int
  pr : List Int
  ke : List Int
  cl : List Int

structure MSt (W0 w : World) (m mt hp : Nat) (Sh : Nat → Prop) (V I0 I1 P K C : Value) (d : Nat) (g : GS) : Prop where
  box : w.heap[m]? = some (.cells #[.pointer (some ⟨mt, 0, none⟩), .pointer (some ⟨hp, 0, none⟩), V, I0, I1, .nilIface, .int .i64 d, P, K, C, .int .i64 0, .int .i64 0, .int .i64 0] 61 (0, 0))
  met : MetIs w mt g.now g.fuel
  hep : HeapIs w Sh hp g.q g.xss
  i0 : NumSrc W0 I0 g.i0
  i1 : NumSrc W0 I1 g.i1
  pr : w.ownsRow 0 2 1 P g.pr.length (nums g.pr)
  ke : w.ownsRow 0 2 1 K g.ke.length (nums g.ke)
  cl : w.ownsRow 0 2 1 C g.cl.length (nums g.cl)
  mm : m ≠ mt
  sm : ¬ Sh m
  st : ¬ Sh mt
  sl : ∀ k, Sh k → k < w.heap.size
  pm : P.ownBlock ≠ some m ∧ P.ownBlock ≠ some mt ∧ ∀ k, P.ownBlock = some k → ¬ Sh k
  km : K.ownBlock ≠ some m ∧ K.ownBlock ≠ some mt ∧ ∀ k, K.ownBlock = some k → ¬ Sh k
  cm : C.ownBlock ≠ some m ∧ C.ownBlock ≠ some mt ∧ ∀ k, C.ownBlock = some k → ¬ Sh k
  pk : ∀ k, P.ownBlock = some k → K.ownBlock ≠ some k
  pc : ∀ k, P.ownBlock = some k → C.ownBlock ≠ some k
  kc : ∀ k, K.ownBlock = some k → C.ownBlock ≠ some k
/-- the blocks of a machine -/
structure MIn (X : Nat → Prop) (m mt : Nat) (Sh : Nat → Prop) (P K C : Value) : Prop where
  m : X m
  mt : X mt
  sh : ∀ k, Sh k → X k
  p : ∀ k, P.ownBlock = some k → X k
  k : ∀ k, K.ownBlock = some k → X k
  c : ∀ k, C.ownBlock = some k → X k
def MIs (W0 w : World) (X : Nat → Prop) (m : Nat) (V : Value) (d : Nat) (g : GS) : Prop :=
  ∃ mt hp Sh I0 I1 P K C, MSt W0 w m mt hp Sh V I0 I1 P K C d g ∧ MIn X m mt Sh P K C

theorem MSt.kept {W0 w w' : World} {m mt hp : Nat} {Sh T : Nat → Prop} {V I0 I1 P K C : Value} {d : Nat} {g : GS} (h : MSt W0 w m mt hp Sh V I0 I1 P K C d g) (hc : Chg T w w') {X : Nat → Prop} (hX : MIn X m mt Sh P K C) (hn : ∀ k, X k → ¬ T k) : MSt W0 w' m mt hp Sh V I0 I1 P K C d g :=
  ⟨hc.heap h.box (hn _ hX.m), h.met.kept hc (hn _ hX.mt), h.hep.kept hc (fun k hk => hn _ (hX.sh k hk)), h.i0, h.i1, ownsRow_kept h.pr hc (fun k hk => hn _ (hX.p k hk)), ownsRow_kept h.ke hc (fun k hk => hn _ (hX.k k hk)), ownsRow_kept h.cl hc (fun k hk => hn _ (hX.c k hk)), h.mm, h.sm, h.st, fun k hk => Nat.lt_of_lt_of_le (h.sl k hk) hc.size, h.pm, h.km, h.cm, h.pk, h.pc, h.kc⟩
theorem MIs.kept {W0 w w' : World} {X T : Nat → Prop} {m : Nat} {V : Value} {d : Nat} {g : GS} (h : MIs W0 w X m V d g) (hc : Chg T w w') (hn : ∀ k, X k → ¬ T k) : MIs W0 w' X m V d g := by
  obtain ⟨mt, hp, Sh, I0, I1, P, K, C, h1, h2⟩ := h
  exact ⟨mt, hp, Sh, I0, I1, P, K, C, h1.kept hc h2 hn, h2⟩
theorem MIs.mono {W0 w : World} {X X' : Nat → Prop} {m : Nat} {V : Value} {d : Nat} {g : GS} (h : MIs W0 w X m V d g) (hm : ∀ k, X k → k < w.heap.size → X' k) : MIs W0 w X' m V d g := by
  obtain ⟨mt, hp, Sh, I0, I1, P, K, C, h1, h2⟩ := h
  exact ⟨mt, hp, Sh, I0, I1, P, K, C, h1, ⟨hm _ h2.m (lt_of_heap h1.box), hm _ h2.mt (lt_of_heap h1.met), fun k hk => hm _ (h2.sh k hk) (h1.sl k hk), fun k hk => hm _ (h2.p k hk) (ownsRow_lt h1.pr k hk), fun k hk => hm _ (h2.k k hk) (ownsRow_lt h1.ke k hk), fun k hk => hm _ (h2.c k hk) (ownsRow_lt h1.cl k hk)⟩⟩

/-- the machine and a frame, in a world behind W0 -/
structure Ms (W0 w : World) (X Y : Nat → Prop) (m : Nat) (V : Value) (d : Nat) (g : GS) (F : Nat) (vars arrs stack : List Int) : Prop where
  mi : MIs W0 w X m V d g
  fi : FIs w Y F vars arrs stack
  bel : Below W0.heap.size W0 w
  lx : ∀ k, X k → W0.heap.size ≤ k ∧ k < w.heap.size
  ly : ∀ k, Y k → W0.heap.size ≤ k ∧ k < w.heap.size
  xy : ∀ k, X k → ¬ Y k
/-- what may have changed, and what the footprints have become -/
structure Gr (w : World) (X Y : Nat → Prop) (w' : World) (X' Y' : Nat → Prop) : Prop where
  chg : Chg (fun k => X k ∨ Y k) w w'
  gx : ∀ k, X' k → X k ∨ w.heap.size ≤ k
  gy : ∀ k, Y' k → Y k ∨ w.heap.size ≤ k
theorem Gr.refl (w : World) (X Y : Nat → Prop) : Gr w X Y w X Y := ⟨Chg.refl _ _, fun _ h => .inl h, fun _ h => .inl h⟩
theorem Gr.trans {w w1 w2 : World} {X Y X1 Y1 X2 Y2 : Nat → Prop} (h : Gr w X Y w1 X1 Y1) (k : Gr w1 X1 Y1 w2 X2 Y2) : Gr w X Y w2 X2 Y2 := by
  refine ⟨h.chg.trans k.chg (fun _ _ x => x) (fun i hi hx => ?_), fun i hi => ?_, fun i hi => ?_⟩
  · rcases hx with hx | hx
    · rcases h.gx i hx with h | h
      · exact .inl h
      · omega
    · rcases h.gy i hx with h | h
      · exact .inr h
      · omega
  · rcases k.gx i hi with h1 | h1
    · exact h.gx i h1
    · exact .inr (Nat.le_trans h.chg.size h1)
  · rcases k.gy i hi with h1 | h1
    · exact h.gy i h1
    · exact .inr (Nat.le_trans h.chg.size h1)
/-- the frame alone has changed -/
theorem Ms.frame {W0 w w' : World} {X Y : Nat → Prop} {m : Nat} {V : Value} {d : Nat} {g : GS} {F : Nat} {vars arrs stack vars' arrs' stack' : List Int} (h : Ms W0 w X Y m V d g F vars arrs stack)
    (hf : FIs w' (fun k => Y k ∨ w.heap.size ≤ k) F vars' arrs' stack') (hc : Chg Y w w') : ∃ Y', Ms W0 w' X Y' m V d g F vars' arrs' stack' ∧ Gr w X Y w' X Y' := by
  refine ⟨fun k => (Y k ∨ w.heap.size ≤ k) ∧ k < w'.heap.size, ⟨h.mi.kept hc (fun k hk => h.xy k hk), hf.mono (fun k hk hl => ⟨hk, hl⟩), ?_, fun k hk => ⟨(h.lx k hk).1, Nat.lt_of_lt_of_le (h.lx k hk).2 hc.size⟩, fun k hk => ⟨?_, hk.2⟩, fun k hk hy => ?_⟩, ⟨hc.mono (fun _ _ h => .inr h), fun _ h => .inl h, fun _ h => h.1⟩⟩
  · exact h.bel.trans (hc.below (B := W0.heap.size) (fun k hk => (h.ly k hk).1) h.bel.size)
  · rcases hk.1 with h1 | h1
    · exact (h.ly k h1).1
    · exact Nat.le_trans h.bel.size h1
  · rcases hy.1 with h1 | h1
    · exact h.xy k hk h1
    · have := (h.lx k hk).2; omega
/-- the machine alone has changed -/
theorem Ms.mach {W0 w w' : World} {X Y : Nat → Prop} {m : Nat} {V : Value} {d d' : Nat} {g g' : GS} {F : Nat} {vars arrs stack : List Int} (h : Ms W0 w X Y m V d g F vars arrs stack)
    (hm : MIs W0 w' (fun k => X k ∨ w.heap.size ≤ k) m V d' g') (hc : Chg X w w') : ∃ X', Ms W0 w' X' Y m V d' g' F vars arrs stack ∧ Gr w X Y w' X' Y := by
  refine ⟨fun k => (X k ∨ w.heap.size ≤ k) ∧ k < w'.heap.size, ⟨hm.mono (fun k hk hl => ⟨hk, hl⟩), h.fi.kept hc (fun k hk hx => h.xy k hx hk), ?_, fun k hk => ⟨?_, hk.2⟩, fun k hk => ⟨(h.ly k hk).1, Nat.lt_of_lt_of_le (h.ly k hk).2 hc.size⟩, fun k hk hy => ?_⟩, ⟨hc.mono (fun _ _ h => .inl h), fun _ h => h.1, fun _ h => .inl h⟩⟩
  · exact h.bel.trans (hc.below (B := W0.heap.size) (fun k hk => (h.lx k hk).1) h.bel.size)
  · rcases hk.1 with h1 | h1
    · exact (h.lx k h1).1
    · exact Nat.le_trans h.bel.size h1
  · rcases hk.1 with h1 | h1
    · exact h.xy k h1 hy
    · have := (h.ly k hy).2; omega
/-- neither has changed -/
theorem Ms.still {W0 w w' : World} {X Y : Nat → Prop} {m : Nat} {V : Value} {d : Nat} {g : GS} {F : Nat} {vars arrs stack : List Int} (h : Ms W0 w X Y m V d g F vars arrs stack) (hc : Chg (fun _ => False) w w') : Ms W0 w' X Y m V d g F vars arrs stack ∧ Gr w X Y w' X Y :=
  ⟨⟨h.mi.kept hc (fun _ _ x => x), h.fi.kept hc (fun _ _ x => x), h.bel.trans (hc.below (B := W0.heap.size) (fun k h => h.elim) h.bel.size), fun k hk => ⟨(h.lx k hk).1, Nat.lt_of_lt_of_le (h.lx k hk).2 hc.size⟩, fun k hk => ⟨(h.ly k hk).1, Nat.lt_of_lt_of_le (h.ly k hk).2 hc.size⟩, h.xy⟩, ⟨hc.mono (fun _ _ h => h.elim), fun _ h => .inl h, fun _ h => .inl h⟩⟩

/-! ### the machine's cells are set -/
/-- a row's block: its own of old, or a new one -/
theorem MSt.set7 {W0 w w2 : World} {m mt hp : Nat} {Sh : Nat → Prop} {V I0 I1 P K C : Value} {d : Nat} {g : GS} (h : MSt W0 w m mt hp Sh V I0 I1 P K C d g) {q cap : Nat} {x : Int} {L : Nat} (hc : Chg (fun k => P.ownBlock = some k) w w2)
    (ho : w2.ownsRow 0 2 1 (.slice (some ⟨q, 0, none⟩) L cap) L (nums (g.pr ++ [x]))) (hL : L = g.pr.length + 1) (hat : P.ownBlock = some q ∨ w.heap.size ≤ q) :
    MSt W0 (w2.setCell ⟨m, 7, none⟩ (.slice (some ⟨q, 0, none⟩) L cap)) m mt hp Sh V I0 I1 (.slice (some ⟨q, 0, none⟩) L cap) K C d { g with pr := g.pr ++ [x] } := by
  have hq : ∀ k, (Value.slice (some ⟨q, 0, none⟩) L cap).ownBlock = some k → P.ownBlock = some k ∨ w.heap.size ≤ k := fun k hk => by
    have hk : some q = some k := hk
    injection hk with hk
    rw [← hk]; exact hat
  have hs := Chg.set_cell (w := w2) ⟨m, 7, none⟩ (.slice (some ⟨q, 0, none⟩) L cap)
  have hne : ∀ k, (Value.slice (some ⟨q, 0, none⟩) L cap).ownBlock = some k → k ≠ m ∧ k ≠ mt ∧ ¬ Sh k := fun k hk => by
    rcases hq k hk with h1 | h1
    · exact ⟨fun e => h.pm.1 (by rw [h1, e]), fun e => h.pm.2.1 (by rw [h1, e]), h.pm.2.2 k h1⟩
    · exact ⟨fun e => by have := lt_of_heap h.box; omega, fun e => by have := lt_of_heap h.met; omega, fun e => by have := h.sl k e; omega⟩
  refine ⟨heap_set (hc.heap h.box (fun e => h.pm.1 e)) 7 _, (h.met.kept hc (fun e => h.pm.2.1 e)).kept hs (fun e => h.mm e.symm), (h.hep.kept hc (fun k hk e => h.pm.2.2 k e hk)).kept hs (fun k hk e => h.sm (by have e : k = m := e; rw [← e]; exact hk)), h.i0, h.i1, ?_, ?_, ?_, h.mm, h.sm, h.st, fun k hk => Nat.lt_of_lt_of_le (h.sl k hk) (Nat.le_trans hc.size hs.size), ?_, h.km, h.cm, ?_, ?_, h.kc⟩
  · show World.ownsRow _ 0 2 1 _ (g.pr ++ [x]).length (nums (g.pr ++ [x]))
    rw [List.length_append, List.length_singleton, ← hL]
    exact ownsRow_kept ho hs (fun k hk e => (hne k hk).1 e)
  · exact ownsRow_kept (ownsRow_kept h.ke hc (fun k hk e => h.pk k e hk)) hs (fun k hk e => h.km.1 (by rw [hk]; exact congrArg some e))
  · exact ownsRow_kept (ownsRow_kept h.cl hc (fun k hk e => h.pc k e hk)) hs (fun k hk e => h.cm.1 (by rw [hk]; exact congrArg some e))
  · exact ⟨fun e => (hne m e).1 rfl, fun e => (hne mt e).2.1 rfl, fun k hk => (hne k hk).2.2⟩
  · intro k hk e
    rcases hq k hk with h1 | h1
    · exact h.pk k h1 e
    · have := ownsRow_lt h.ke k e; omega
  · intro k hk e
    rcases hq k hk with h1 | h1
    · exact h.pc k h1 e
    · have := ownsRow_lt h.cl k e; omega
theorem MSt.set8 {W0 w w2 : World} {m mt hp : Nat} {Sh : Nat → Prop} {V I0 I1 P K C : Value} {d : Nat} {g : GS} (h : MSt W0 w m mt hp Sh V I0 I1 P K C d g) {q cap : Nat} {x : Int} {L : Nat} (hc : Chg (fun k => K.ownBlock = some k) w w2)
    (ho : w2.ownsRow 0 2 1 (.slice (some ⟨q, 0, none⟩) L cap) L (nums (g.ke ++ [x]))) (hL : L = g.ke.length + 1) (hat : K.ownBlock = some q ∨ w.heap.size ≤ q) :
    MSt W0 (w2.setCell ⟨m, 8, none⟩ (.slice (some ⟨q, 0, none⟩) L cap)) m mt hp Sh V I0 I1 P (.slice (some ⟨q, 0, none⟩) L cap) C d { g with ke := g.ke ++ [x] } := by
  have hq : ∀ k, (Value.slice (some ⟨q, 0, none⟩) L cap).ownBlock = some k → K.ownBlock = some k ∨ w.heap.size ≤ k := fun k hk => by
    have hk : some q = some k := hk
    injection hk with hk
    rw [← hk]; exact hat
  have hs := Chg.set_cell (w := w2) ⟨m, 8, none⟩ (.slice (some ⟨q, 0, none⟩) L cap)
  have hne : ∀ k, (Value.slice (some ⟨q, 0, none⟩) L cap).ownBlock = some k → k ≠ m ∧ k ≠ mt ∧ ¬ Sh k := fun k hk => by
    rcases hq k hk with h1 | h1
    · exact ⟨fun e => h.km.1 (by rw [h1, e]), fun e => h.km.2.1 (by rw [h1, e]), h.km.2.2 k h1⟩
    · exact ⟨fun e => by have := lt_of_heap h.box; omega, fun e => by have := lt_of_heap h.met; omega, fun e => by have := h.sl k e; omega⟩
  refine ⟨heap_set (hc.heap h.box (fun e => h.km.1 e)) 8 _, (h.met.kept hc (fun e => h.km.2.1 e)).kept hs (fun e => h.mm e.symm), (h.hep.kept hc (fun k hk e => h.km.2.2 k e hk)).kept hs (fun k hk e => h.sm (by have e : k = m := e; rw [← e]; exact hk)), h.i0, h.i1, ?_, ?_, ?_, h.mm, h.sm, h.st, fun k hk => Nat.lt_of_lt_of_le (h.sl k hk) (Nat.le_trans hc.size hs.size), h.pm, ?_, h.cm, ?_, h.pc, ?_⟩
  · exact ownsRow_kept (ownsRow_kept h.pr hc (fun k hk e => h.pk k hk e)) hs (fun k hk e => h.pm.1 (by rw [hk]; exact congrArg some e))
  · show World.ownsRow _ 0 2 1 _ (g.ke ++ [x]).length (nums (g.ke ++ [x]))
    rw [List.length_append, List.length_singleton, ← hL]
    exact ownsRow_kept ho hs (fun k hk e => (hne k hk).1 e)
  · exact ownsRow_kept (ownsRow_kept h.cl hc (fun k hk e => h.kc k e hk)) hs (fun k hk e => h.cm.1 (by rw [hk]; exact congrArg some e))
  · exact ⟨fun e => (hne m e).1 rfl, fun e => (hne mt e).2.1 rfl, fun k hk => (hne k hk).2.2⟩
  · intro k hk e
    rcases hq k e with h1 | h1
    · exact h.pk k hk h1
    · have := ownsRow_lt h.pr k hk; omega
  · intro k hk e
    rcases hq k hk with h1 | h1
    · exact h.kc k h1 e
    · have := ownsRow_lt h.cl k e; omega
theorem MSt.set9 {W0 w w2 : World} {m mt hp : Nat} {Sh : Nat → Prop} {V I0 I1 P K C : Value} {d : Nat} {g : GS} (h : MSt W0 w m mt hp Sh V I0 I1 P K C d g) {q cap : Nat} {x : Int} {L : Nat} (hc : Chg (fun k => C.ownBlock = some k) w w2)
    (ho : w2.ownsRow 0 2 1 (.slice (some ⟨q, 0, none⟩) L cap) L (nums (g.cl ++ [x]))) (hL : L = g.cl.length + 1) (hat : C.ownBlock = some q ∨ w.heap.size ≤ q) :
    MSt W0 (w2.setCell ⟨m, 9, none⟩ (.slice (some ⟨q, 0, none⟩) L cap)) m mt hp Sh V I0 I1 P K (.slice (some ⟨q, 0, none⟩) L cap) d { g with cl := g.cl ++ [x] } := by
  have hq : ∀ k, (Value.slice (some ⟨q, 0, none⟩) L cap).ownBlock = some k → C.ownBlock = some k ∨ w.heap.size ≤ k := fun k hk => by
    have hk : some q = some k := hk
    injection hk with hk
    rw [← hk]; exact hat
  have hs := Chg.set_cell (w := w2) ⟨m, 9, none⟩ (.slice (some ⟨q, 0, none⟩) L cap)
  have hne : ∀ k, (Value.slice (some ⟨q, 0, none⟩) L cap).ownBlock = some k → k ≠ m ∧ k ≠ mt ∧ ¬ Sh k := fun k hk => by
    rcases hq k hk with h1 | h1
    · exact ⟨fun e => h.cm.1 (by rw [h1, e]), fun e => h.cm.2.1 (by rw [h1, e]), h.cm.2.2 k h1⟩
    · exact ⟨fun e => by have := lt_of_heap h.box; omega, fun e => by have := lt_of_heap h.met; omega, fun e => by have := h.sl k e; omega⟩
  refine ⟨heap_set (hc.heap h.box (fun e => h.cm.1 e)) 9 _, (h.met.kept hc (fun e => h.cm.2.1 e)).kept hs (fun e => h.mm e.symm), (h.hep.kept hc (fun k hk e => h.cm.2.2 k e hk)).kept hs (fun k hk e => h.sm (by have e : k = m := e; rw [← e]; exact hk)), h.i0, h.i1, ?_, ?_, ?_, h.mm, h.sm, h.st, fun k hk => Nat.lt_of_lt_of_le (h.sl k hk) (Nat.le_trans hc.size hs.size), h.pm, h.km, ?_, h.pk, ?_, ?_⟩
  · exact ownsRow_kept (ownsRow_kept h.pr hc (fun k hk e => h.pc k hk e)) hs (fun k hk e => h.pm.1 (by rw [hk]; exact congrArg some e))
  · exact ownsRow_kept (ownsRow_kept h.ke hc (fun k hk e => h.kc k hk e)) hs (fun k hk e => h.km.1 (by rw [hk]; exact congrArg some e))
  · show World.ownsRow _ 0 2 1 _ (g.cl ++ [x]).length (nums (g.cl ++ [x]))
    rw [List.length_append, List.length_singleton, ← hL]
    exact ownsRow_kept ho hs (fun k hk e => (hne k hk).1 e)
  · exact ⟨fun e => (hne m e).1 rfl, fun e => (hne mt e).2.1 rfl, fun k hk => (hne k hk).2.2⟩
  · intro k hk e
    rcases hq k e with h1 | h1
    · exact h.pc k hk h1
    · have := ownsRow_lt h.pr k hk; omega
  · intro k hk e
    rcases hq k e with h1 | h1
    · exact h.kc k hk h1
    · have := ownsRow_lt h.ke k hk; omega
/-- a cell of the box alone: depth, or an input -/
theorem MSt.setd {W0 w : World} {m mt hp : Nat} {Sh : Nat → Prop} {V I0 I1 P K C : Value} {d : Nat} {g : GS} (h : MSt W0 w m mt hp Sh V I0 I1 P K C d g) (d' : Nat) : MSt W0 (w.setCell ⟨m, 6, none⟩ (.int .i64 d')) m mt hp Sh V I0 I1 P K C d' g := by
  have hs := Chg.set_cell (w := w) ⟨m, 6, none⟩ (.int .i64 d')
  exact ⟨heap_set h.box 6 _, h.met.kept hs (fun e => h.mm e.symm), h.hep.kept hs (fun k hk e => h.sm (by have e : k = m := e; rw [← e]; exact hk)), h.i0, h.i1, ownsRow_kept h.pr hs (fun k hk e => h.pm.1 (by rw [hk]; exact congrArg some e)), ownsRow_kept h.ke hs (fun k hk e => h.km.1 (by rw [hk]; exact congrArg some e)), ownsRow_kept h.cl hs (fun k hk e => h.cm.1 (by rw [hk]; exact congrArg some e)), h.mm, h.sm, h.st, fun k hk => Nat.lt_of_lt_of_le (h.sl k hk) hs.size, h.pm, h.km, h.cm, h.pk, h.pc, h.kc⟩
theorem MSt.set3 {W0 w : World} {m mt hp : Nat} {Sh : Nat → Prop} {V I0 I1 P K C : Value} {d : Nat} {g : GS} (h : MSt W0 w m mt hp Sh V I0 I1 P K C d g) (I : Value) (l : List Int) (hl : NumSrc W0 I l) : MSt W0 (w.setCell ⟨m, 3, none⟩ I) m mt hp Sh V I I1 P K C d { g with i0 := l } := by
  have hs := Chg.set_cell (w := w) ⟨m, 3, none⟩ I
  exact ⟨heap_set h.box 3 _, h.met.kept hs (fun e => h.mm e.symm), h.hep.kept hs (fun k hk e => h.sm (by have e : k = m := e; rw [← e]; exact hk)), hl, h.i1, ownsRow_kept h.pr hs (fun k hk e => h.pm.1 (by rw [hk]; exact congrArg some e)), ownsRow_kept h.ke hs (fun k hk e => h.km.1 (by rw [hk]; exact congrArg some e)), ownsRow_kept h.cl hs (fun k hk e => h.cm.1 (by rw [hk]; exact congrArg some e)), h.mm, h.sm, h.st, fun k hk => Nat.lt_of_lt_of_le (h.sl k hk) hs.size, h.pm, h.km, h.cm, h.pk, h.pc, h.kc⟩
theorem MSt.set4 {W0 w : World} {m mt hp : Nat} {Sh : Nat → Prop} {V I0 I1 P K C : Value} {d : Nat} {g : GS} (h : MSt W0 w m mt hp Sh V I0 I1 P K C d g) (I : Value) (l : List Int) (hl : NumSrc W0 I l) : MSt W0 (w.setCell ⟨m, 4, none⟩ I) m mt hp Sh V I0 I P K C d { g with i1 := l } := by
  have hs := Chg.set_cell (w := w) ⟨m, 4, none⟩ I
  exact ⟨heap_set h.box 4 _, h.met.kept hs (fun e => h.mm e.symm), h.hep.kept hs (fun k hk e => h.sm (by have e : k = m := e; rw [← e]; exact hk)), h.i0, hl, ownsRow_kept h.pr hs (fun k hk e => h.pm.1 (by rw [hk]; exact congrArg some e)), ownsRow_kept h.ke hs (fun k hk e => h.km.1 (by rw [hk]; exact congrArg some e)), ownsRow_kept h.cl hs (fun k hk e => h.cm.1 (by rw [hk]; exact congrArg some e)), h.mm, h.sm, h.st, fun k hk => Nat.lt_of_lt_of_le (h.sl k hk) hs.size, h.pm, h.km, h.cm, h.pk, h.pc, h.kc⟩
/-- the meter goes on -/
theorem MSt.turn {W0 w w' : World} {m mt hp : Nat} {Sh : Nat → Prop} {V I0 I1 P K C : Value} {d : Nat} {g : GS} (h : MSt W0 w m mt hp Sh V I0 I1 P K C d g) (z : Int) (hc : Chg (fun k => k = mt) w w') (hm : MetIs w' mt z g.fuel) : MSt W0 w' m mt hp Sh V I0 I1 P K C d { g with now := z } :=
  ⟨hc.heap h.box (fun e => h.mm e), hm, h.hep.kept hc (fun k hk e => h.st (by rw [← e]; exact hk)), h.i0, h.i1, ownsRow_kept h.pr hc (fun k hk e => h.pm.2.1 (by rw [hk, e])), ownsRow_kept h.ke hc (fun k hk e => h.km.2.1 (by rw [hk, e])), ownsRow_kept h.cl hc (fun k hk e => h.cm.2.1 (by rw [hk, e])), h.mm, h.sm, h.st, fun k hk => Nat.lt_of_lt_of_le (h.sl k hk) hc.size, h.pm, h.km, h.cm, h.pk, h.pc, h.kc⟩
/-- the heap has changed -/
theorem MSt.heap {W0 w w' : World} {m mt hp : Nat} {Sh : Nat → Prop} {V I0 I1 P K C : Value} {d : Nat} {g : GS} (h : MSt W0 w m mt hp Sh V I0 I1 P K C d g) (ys : List (List Int)) (hc : Chg Sh w w') (hh : HeapIs w' (fun k => Sh k ∨ w.heap.size ≤ k) hp g.q ys) :
    MSt W0 w' m mt hp (fun k => (Sh k ∨ w.heap.size ≤ k) ∧ k < w'.heap.size) V I0 I1 P K C d { g with xss := ys } := by
  have hlm := lt_of_heap h.box
  have hlt := lt_of_heap h.met
  refine ⟨hc.heap h.box h.sm, h.met.kept hc h.st, hh.bound, h.i0, h.i1, ownsRow_kept h.pr hc (fun k hk e => h.pm.2.2 k hk e), ownsRow_kept h.ke hc (fun k hk e => h.km.2.2 k hk e), ownsRow_kept h.cl hc (fun k hk e => h.cm.2.2 k hk e), h.mm, ?_, ?_, fun k hk => hk.2, ⟨h.pm.1, h.pm.2.1, ?_⟩, ⟨h.km.1, h.km.2.1, ?_⟩, ⟨h.cm.1, h.cm.2.1, ?_⟩, h.pk, h.pc, h.kc⟩
  · rintro ⟨h1 | h1, _⟩
    · exact h.sm h1
    · omega
  · rintro ⟨h1 | h1, _⟩
    · exact h.st h1
    · omega
  · rintro k hk ⟨h1 | h1, _⟩
    · exact h.pm.2.2 k hk h1
    · have := ownsRow_lt h.pr k hk; omega
  · rintro k hk ⟨h1 | h1, _⟩
    · exact h.km.2.2 k hk h1
    · have := ownsRow_lt h.ke k hk; omega
  · rintro k hk ⟨h1 | h1, _⟩
    · exact h.cm.2.2 k hk h1
    · have := ownsRow_lt h.cl k hk; omega
end Go.Proofs.YtdpimkbdieafgaaDoor
