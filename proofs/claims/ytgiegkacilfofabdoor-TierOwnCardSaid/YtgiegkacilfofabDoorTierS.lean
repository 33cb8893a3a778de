/- law19: pair; a manager in a walk. -/
import Derived.Test.YtgiegkacilfofabDoorTierN
namespace Go.Proofs.YtgiegkacilfofabDoor
set_option linter.unusedVariables false
set_option linter.unusedSimpArgs false
open Go.RowKit Go.Conc

def pairF : FnR := ⟨⟨#[102]⟩, 1, 1, 0, [⟨2, 0, 0⟩, ⟨1, 0, 3⟩, ⟨8, 0, 0⟩, ⟨18, 0, 0⟩]⟩
def pairM : FnR := ⟨⟨#[]⟩, 0, 0, 0, [⟨1, 0, 0⟩, ⟨18, 0, 0⟩]⟩
set_option maxRecDepth 100000 in
theorem pair_any (w : World) :
    Calls Tryd.prog 8 #[] w fun e w' => ∃ b1 b2 b3, e = .returned (.agg #[.slice (some ⟨b3, 0, none⟩) 2 2]) ∧
      w'.heap[b1]? = some (.cells (insCells pairF.l).toArray 44 (0, 0)) ∧ w'.heap[b2]? = some (.cells (insCells pairM.l).toArray 44 (0, 0)) ∧
      w'.heap[b3]? = some (.cells #[.string ⟨#[]⟩, .int .i64 0, .int .i64 0, .int .i64 0, .slice (some ⟨b2, 0, none⟩) 2 2, .string ⟨#[102]⟩, .int .i64 1, .int .i64 1, .int .i64 0, .slice (some ⟨b1, 0, none⟩) 4 4] 39 (0, 0)) ∧
      (w.heap.size ≤ b1 ∧ w.heap.size ≤ b2 ∧ w.heap.size ≤ b3 ∧ b1 ≠ b2 ∧ b1 ≠ b3 ∧ b2 ≠ b3) ∧ Below w.heap.size w w' := by
  go_enter Tryd.func8, Tryd.ntmps8
  go_wp2_with fail
  obtain ⟨q, hq⟩ : ∃ q, q = w.heap.size := ⟨_, rfl⟩
  rw [← hq]
  obtain ⟨w1, h1⟩ : ∃ z, z = w.alloc (.cells #[.slice (some ⟨q + 1 + 1 + 1, 0, none⟩) 2 2] 28) := ⟨_, rfl⟩
  rw [← h1]
  obtain ⟨w2, h2⟩ : ∃ z, z = w1.alloc (.cells #[.int .i64 2, .int .i64 0, .int .i64 0, .int .i64 1, .int .i64 0, .int .i64 3, .int .i64 8, .int .i64 0, .int .i64 0, .int .i64 18, .int .i64 0, .int .i64 0] 44) := ⟨_, rfl⟩
  rw [← h2]
  obtain ⟨w3, h3⟩ : ∃ z, z = w2.alloc (.cells #[.int .i64 1, .int .i64 0, .int .i64 0, .int .i64 18, .int .i64 0, .int .i64 0] 44) := ⟨_, rfl⟩
  rw [← h3]
  obtain ⟨w4, h4⟩ : ∃ z, z = w3.alloc (.cells #[.string ⟨#[]⟩, .int .i64 0, .int .i64 0, .int .i64 0, .slice (some ⟨q + 1 + 1, 0, none⟩) 2 2, .string ⟨#[102]⟩, .int .i64 1, .int .i64 1, .int .i64 0, .slice (some ⟨q + 1, 0, none⟩) 4 4] 39) := ⟨_, rfl⟩
  rw [← h4]
  have s1 : w1.heap.size = q + 1 := by rw [h1, hq]; simp
  have s2 : w2.heap.size = q + 1 + 1 := by rw [h2]; simp [s1]
  have s3 : w3.heap.size = q + 1 + 1 + 1 := by rw [h3]; simp [s2]
  have c1 : Chg (fun _ => False) w w1 := by rw [h1]; exact (Chg.refl _ _).alloc _
  have c2 : Chg (fun _ => False) w1 w2 := by rw [h2]; exact (Chg.refl _ _).alloc _
  have c3 : Chg (fun _ => False) w2 w3 := by rw [h3]; exact (Chg.refl _ _).alloc _
  have c4 : Chg (fun _ => False) w3 w4 := by rw [h4]; exact (Chg.refl _ _).alloc _
  have b0 := ((c2.then c3).then c4).heap (k := q) (by rw [h1]; exact heap_new' hq.symm) (fun x => x)
  have b1 := (c3.then c4).heap (k := q + 1) (by rw [h2]; exact heap_new' s1) (fun x => x)
  have b2 := c4.heap (k := q + 1 + 1) (by rw [h3]; exact heap_new' s2) (fun x => x)
  have b3 : w4.heap[q + 1 + 1 + 1]? = some (.cells #[.string ⟨#[]⟩, .int .i64 0, .int .i64 0, .int .i64 0, .slice (some ⟨q + 1 + 1, 0, none⟩) 2 2, .string ⟨#[102]⟩, .int .i64 1, .int .i64 1, .int .i64 0, .slice (some ⟨q + 1, 0, none⟩) 4 4] 39 (0, 0)) := by rw [h4]; exact heap_new' s3
  have v0 := cell_of_block b0 0
  simp at v0
  refine bodyPost_ret (by simp [results, Tryd.results8, go_sem, v0]; try rfl) rfl ?_
  exact ⟨q + 1, q + 1 + 1, q + 1 + 1 + 1, rfl, b1, b2, b3, ⟨by omega, by omega, by omega, by omega, by omega, by omega⟩, by rw [hq]; exact ((((c1.then c2).then c3).then c4).to_below)⟩

theorem src_ins {w : World} {G : Nat} {l : List InsR} {n : Nat} (hn : n = l.length) (h : w.heap[G]? = some (.cells (insCells l).toArray 44 (0, 0))) (hm : n ≤ maxLen) : Src w (.slice (some ⟨G, 0, none⟩) n n) n (insCells l) :=
  .inr ⟨G, 0, n, rfl, lt_of_heap h, Nat.le_refl _, hm, fun j u hu => by rw [Nat.zero_add, cell_of_block h]; simpa using hu⟩
theorem pair_fns {w : World} {b1 b2 b3 : Nat} (h1 : w.heap[b1]? = some (.cells (insCells pairF.l).toArray 44 (0, 0))) (h2 : w.heap[b2]? = some (.cells (insCells pairM.l).toArray 44 (0, 0)))
    (h3 : w.heap[b3]? = some (.cells #[.string ⟨#[]⟩, .int .i64 0, .int .i64 0, .int .i64 0, .slice (some ⟨b2, 0, none⟩) 2 2, .string ⟨#[102]⟩, .int .i64 1, .int .i64 1, .int .i64 0, .slice (some ⟨b1, 0, none⟩) 4 4] 39 (0, 0))) :
    FnsIs w (.slice (some ⟨b3, 0, none⟩) 2 2) [pairM, pairF] :=
  .inr ⟨b3, 0, 2, rfl, lt_of_heap h3, Nat.le_refl _, by simp [maxLen], fun j f hf => by
    match j, hf with
    | 0, hf =>
      have hf : pairM = f := Option.some.inj hf
      subst hf
      exact ⟨_, 2, ⟨cell_of_block h3 0, cell_of_block h3 1, cell_of_block h3 2, cell_of_block h3 3, cell_of_block h3 4⟩, src_ins rfl h2 (by show 2 ≤ maxLen; simp [maxLen])⟩
    | 1, hf =>
      have hf : pairF = f := Option.some.inj hf
      subst hf
      exact ⟨_, 4, ⟨cell_of_block h3 5, cell_of_block h3 6, cell_of_block h3 7, cell_of_block h3 8, cell_of_block h3 9⟩, src_ins rfl h1 (by show 4 ≤ maxLen; simp [maxLen])⟩⟩

/-- a manager in a call that began in w0 -/
structure TM (w0 w : World) (tag : Nat → Nat) (m : Nat) (cap : Int) (np : Nat) (x : TAdr) (T : TS) : Prop where
  tc : TC w tag m cap np x T
  inv : TInv cap T
  lo : ∀ k, tag k ≠ 0 → w0.heap.size ≤ k
  bel : Below w0.heap.size w0 w
section
variable {w0 w : World} {tag : Nat → Nat} {m : Nat} {cap : Int} {np : Nat} {x : TAdr} {T : TS}
theorem TM.kept (h : TM w0 w tag m cap np x T) {w' : World} (hc : Chg (fun _ => False) w w') : TM w0 w' tag m cap np x T :=
  ⟨h.tc.kept hc (fun _ _ x => x), h.inv, h.lo, h.bel.trans (hc.below (fun _ x => x.elim) h.bel.size)⟩
theorem TM.enter (h : TM w0 w tag m cap np x T) {V : Value} {args : List Int} (ha : NumSrc w V args) (fn : Int) (hnp : np + 20 < 1048576) :
    Calls Tryd.prog 9 #[.pointer (some ⟨m, 0, none⟩), .int .i64 fn, V] w fun e w' => ∃ VB tag', e = .returned (.tuple #[VB, .bool (enterV cap T fn args).1.2.1, .int .i64 (enterV cap T fn args).1.2.2]) ∧
      w'.ownsRow 0 44 3 VB (enterV cap T fn args).1.1.length (insCells (enterV cap T fn args).1.1) ∧ (∀ k, VB.ownBlock = some k → w.heap.size ≤ k ∧ tag' k = 0) ∧ TM w0 w' tag' m cap (np + 10) x (enterV cap T fn args).2 ∧ Ext w w' tag tag' ∧ Chg (Own tag) w w' := by
  refine (enter_any h.tc h.inv ha fn hnp).mono ?_
  rintro e w' ⟨VB, tag', rfl, h1, h2, h3, h4, h5⟩
  refine ⟨VB, tag', rfl, h1, h2, ⟨h3, ?_, fun k hk => ?_, h.bel.trans (h5.below h.lo h.bel.size)⟩, h4, h5⟩
  · exact TInv.enter h.inv h.tc.capok.1 fn args
  · rcases h4.new k hk with e | e
    · exact h.lo k e
    · exact Nat.le_trans h.bel.size e
theorem TM.events (h : TM w0 w tag m cap np x T) (hnp : np ≤ 1048576) :
    Calls Tryd.prog 10 #[.pointer (some ⟨m, 0, none⟩)] w fun e w' => ∃ VE, e = .returned VE ∧ w'.ownsRow 0 41 2 VE T.evs.length (evCells T.evs) ∧ (∀ k, VE.ownBlock = some k → w.heap.size ≤ k) ∧ TM w0 w' tag m cap np x T ∧ Chg (fun _ => False) w w' :=
  (events_any h.tc hnp).mono fun e w' ⟨VE, h1, h2, h3, h4⟩ => ⟨VE, h1, h2, h3, h.kept h4, h4⟩
end
theorem tinv_new (cap : Int) (fs : List FnR) (pub : List (List Bool)) (picks : List Int) : TInv cap ⟨fs, pub, picks, [], fun _ => none, []⟩ := ⟨fun e he => (by cases he), fun x g h => (by cases h)⟩
theorem num_one {w w' : World} {x : Int} (h : w' = w.alloc (.cells #[.int .i64 x] 2)) : NumSrc w' (.slice (some ⟨w.heap.size, 0, none⟩) 1 1) [x] := by
  refine ⟨_, 1, rfl, Nat.le_refl _, by simp [maxLen], fun _ => ⟨w.heap.size, 0, rfl, fun j y hy => ?_⟩⟩
  have hb : w'.heap[w.heap.size]? = some (.cells #[.int .i64 x] 2 (0, 0)) := by rw [h]; exact heap_new _ _
  match j, hy with
  | 0, hy =>
    have hy : x = y := Option.some.inj hy
    subst hy
    exact cell_of_block hb 0
end Go.Proofs.YtgiegkacilfofabDoor
