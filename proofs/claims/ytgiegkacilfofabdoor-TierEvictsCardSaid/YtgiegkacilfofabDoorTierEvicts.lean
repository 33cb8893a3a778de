/- law19: TierEvicts. -/
import Derived.Test.YtgiegkacilfofabDoorTG4
import Derived.Deep.AppendLies
namespace Go.Proofs.YtgiegkacilfofabDoor
set_option linter.unusedVariables false
set_option linter.unusedSimpArgs false
open Go.RowKit Go.Conc

theorem tmod_natE (x : Int) (m : Nat) (h : 0 ≤ x) (hm : 0 < m) : ∃ k : Nat, x.tmod (m : Int) = (k : Int) ∧ k < m := by
  refine ⟨(x.tmod m).toNat, ?_, ?_⟩
  · rw [Int.toNat_of_nonneg (Int.tmod_nonneg _ h)]
  · have h1 : x.tmod m < m := Int.tmod_lt_of_pos _ (by omega)
    have h2 : 0 ≤ x.tmod m := Int.tmod_nonneg _ h
    omega
/-- the cells of a row of functions whose instructions lie in none of the blocks S -/
def FnZ (w : World) (S : Nat → Prop) (fs : List FnR) (xs : List Value) : Prop :=
  ∀ (j : Nat) f, fs[j]? = some f → ∃ A c, (xs[j * 5]? = some (.string f.nm) ∧ xs[j * 5 + 1]? = some (.int .i64 f.ps) ∧ xs[j * 5 + 2]? = some (.int .i64 f.vs) ∧ xs[j * 5 + 3]? = some (.int .i64 f.ar) ∧ xs[j * 5 + 4]? = some (.slice A f.l.length c)) ∧ Src w (.slice A f.l.length c) f.l.length (insCells f.l) ∧
    ∀ k, (Value.slice A f.l.length c).ownBlock = some k → ¬ S k ∧ k < w.heap.size
theorem FnZ.cells {w : World} {S : Nat → Prop} {fs : List FnR} {xs : List Value} (h : FnZ w S fs xs) : FnCells w fs xs := fun j f hf => by
  obtain ⟨A, c, h1, h2, _⟩ := h j f hf
  exact ⟨A, c, h1, h2⟩
theorem FnZ.kept {w w' : World} {S S' : Nat → Prop} {fs : List FnR} {xs : List Value} {T : Nat → Prop} (h : FnZ w S fs xs) (hc : Chg T w w') (hT : ∀ k, T k → S k ∨ w.heap.size ≤ k) (hS : ∀ k, S' k → S k ∨ w.heap.size ≤ k) : FnZ w' S' fs xs := fun j f hf => by
  obtain ⟨A, c, h1, h2, h3⟩ := h j f hf
  refine ⟨A, c, h1, h2.kept hc (.inr fun k hk ht => ?_), fun k hk => ⟨fun hs => ?_, Nat.lt_of_lt_of_le (h3 k hk).2 hc.size⟩⟩
  · obtain ⟨a, b⟩ := h3 k hk
    rcases hT k ht with e | e
    · exact a e
    · omega
  · obtain ⟨a, b⟩ := h3 k hk
    rcases hS k hs with e | e
    · exact a e
    · omega
theorem FnZ.snoc {w : World} {S : Nat → Prop} {fs : List FnR} {xs : List Value} {f : FnR} {A : Option Addr} {c : Nat} (h : FnZ w S fs xs) (hl : xs.length = fs.length * 5) (hs : Src w (.slice A f.l.length c) f.l.length (insCells f.l)) (hk : ∀ k, (Value.slice A f.l.length c).ownBlock = some k → ¬ S k ∧ k < w.heap.size) :
    FnZ w S (fs ++ [f]) (xs ++ [.string f.nm, .int .i64 f.ps, .int .i64 f.vs, .int .i64 f.ar, .slice A f.l.length c]) := fun j g hg => by
  by_cases hj : j < fs.length
  · rw [List.getElem?_append_left hj] at hg
    obtain ⟨B, d, ⟨h0, h1, h2, h3, h4⟩, h5⟩ := h j g hg
    refine ⟨B, d, ⟨?_, ?_, ?_, ?_, ?_⟩, h5⟩ <;> (rw [List.getElem?_append_left (by omega)]; assumption)
  · rw [List.getElem?_append_right (by omega)] at hg
    obtain ⟨rfl, rfl⟩ : j = fs.length ∧ g = f := by
      have h1 : j - fs.length = 0 := by
        have := (List.getElem?_eq_some_iff.1 hg).1
        simp at this
        omega
      rw [h1] at hg
      injection hg with hg
      exact ⟨by omega, hg.symm⟩
    refine ⟨A, c, ⟨?_, ?_, ?_, ?_, ?_⟩, hs, hk⟩ <;> (rw [List.getElem?_append_right (by omega), hl]; simp [Nat.add_sub_cancel_left])
theorem evF_succ (j : Nat) : evF (j + 1) = evF j ++ [pairF] := by
  unfold evF
  rw [List.replicate_succ', List.cons_append]
theorem evF_len (j : Nat) : (evF j).length = j + 1 := by unfold evF; simp
theorem ones_succ (j : Nat) : nums (List.replicate (j + 1) (1 : Int)) = nums (List.replicate j 1) ++ [.int .i64 1] := by
  rw [List.replicate_succ']
  unfold nums
  rw [List.map_append]
  rfl
/-- behind n functions, and j picks -/
structure EvC (w0 wr : World) (Q n j : Nat) (Vf Vp : Value) : Prop where
  box : wr.heap[Q]? = some (.cells #[Vf] 28 (0, 0))
  row : ∃ xs, wr.ownsRow 0 39 5 Vf (n + 1) xs ∧ FnZ wr (fun k => k = Q ∨ Vf.ownBlock = some k ∨ Vp.ownBlock = some k) (evF n) xs
  pk : wr.ownsRow 0 2 1 Vp j (nums (List.replicate j 1))
  neF : ∀ k, Vf.ownBlock = some k → k ≠ Q ∧ w0.heap.size ≤ k ∧ Vp.ownBlock ≠ some k
  neP : ∀ k, Vp.ownBlock = some k → k ≠ Q ∧ w0.heap.size ≤ k
  q : w0.heap.size ≤ Q
  bel : Below w0.heap.size w0 wr
theorem EvC.kept {w0 wr w' : World} {Q n j : Nat} {Vf Vp : Value} (h : EvC w0 wr Q n j Vf Vp) (hc : Chg (fun _ => False) wr w') : EvC w0 w' Q n j Vf Vp := by
  obtain ⟨xs, h1, h2⟩ := h.row
  exact ⟨hc.heap h.box (fun x => x), ⟨xs, ownsRow_kept h1 hc (fun _ _ x => x), h2.kept hc (fun _ x => x.elim) (fun _ x => .inl x)⟩, ownsRow_kept h.pk hc (fun _ _ x => x), h.neF, h.neP, h.q, h.bel.trans (hc.below (fun _ x => x.elim) h.bel.size)⟩
/-- one function more -/
theorem EvC.fn {w0 wr wx w5 : World} {Q n j : Nat} {AV : Option Addr} {cV : Nat} {Vp : Value} (h : EvC w0 wr Q n j (.slice AV (n + 1) cV) Vp) (hc : Chg (fun _ => False) wr wx) {b1 g5 cap5 : Nat} (hb1 : wx.heap[b1]? = some (.cells (insCells pairF.l).toArray 44 (0, 0))) (hb1l : wr.heap.size ≤ b1)
    {xs : List Value} (hrow : wr.ownsRow 0 39 5 (.slice AV (n + 1) cV) (n + 1) xs) (hz : FnZ wr (fun k => k = Q ∨ (Value.slice AV (n + 1) cV).ownBlock = some k ∨ Vp.ownBlock = some k) (evF n) xs)
    (ho5 : w5.ownsRow 0 39 5 (.slice (some ⟨g5, 0, none⟩) (n + 1 + 1) cap5) (n + 1 + 1) (xs ++ [.string ⟨#[102]⟩, .int .i64 1, .int .i64 1, .int .i64 0, .slice (some ⟨b1, 0, none⟩) 4 4])) (hc5 : Chg (fun k => (Value.slice AV (n + 1) cV).ownBlock = some k) wx w5) (hat : (Value.slice AV (n + 1) cV).ownBlock = some g5 ∨ wx.heap.size ≤ g5) :
    EvC w0 (w5.setCell ⟨Q, 0, none⟩ (.slice (some ⟨g5, 0, none⟩) (n + 1 + 1) cap5)) Q (n + 1) j (.slice (some ⟨g5, 0, none⟩) (n + 1 + 1) cap5) Vp := by
  have hset := Chg.set_cell (w := w5) ⟨Q, 0, none⟩ (.slice (some ⟨g5, 0, none⟩) (n + 1 + 1) cap5)
  have hQl := lt_of_heap h.box
  have hVl := ownsRow_lt hrow
  have hPl := ownsRow_lt h.pk
  have hsz := hc.size
  have hgQ : g5 ≠ Q := by
    rcases hat with e | e
    · exact (h.neF g5 e).1
    · omega
  have hgP : Vp.ownBlock ≠ some g5 := fun e => by
    rcases hat with e2 | e2
    · exact (h.neF g5 e2).2.2 e
    · have := hPl g5 e; omega
  have hg0 : w0.heap.size ≤ g5 := by
    rcases hat with e | e
    · exact (h.neF g5 e).2.1
    · have := h.bel.size; omega
  have hbox5 := hc5.heap (hc.heap h.box (fun x => x)) (fun e => (h.neF Q e).1 rfl)
  refine ⟨heap_set hbox5 0 _, ⟨_, ownsRow_kept ho5 hset (fun k hk e => ?_), ?_⟩, ?_, fun k hk => ?_, h.neP, h.q, ?_⟩
  · have hk : some g5 = some k := hk
    injection hk with hk
    have e : k = Q := e
    omega
  · have h1 := hz.kept (S' := fun k => k = Q ∨ (Value.slice AV (n + 1) cV).ownBlock = some k ∨ Vp.ownBlock = some k) hc (fun _ x => x.elim) (fun _ x => .inl x)
    have hbl := lt_of_heap hb1
    have hlen : xs.length = (evF n).length * 5 := by rw [evF_len]; exact hrow.1
    have h2 := h1.snoc (f := pairF) (A := some ⟨b1, 0, none⟩) (c := 4) hlen (src_ins (l := pairF.l) rfl hb1 (by show 4 ≤ maxLen; simp [maxLen])) (fun k hk => by
      have hk : some b1 = some k := hk
      injection hk with hk
      subst hk
      refine ⟨fun hs => ?_, hbl⟩
      rcases hs with e | e | e
      · omega
      · have := hVl _ e; omega
      · have := hPl _ e; omega)
    rw [evF_succ]
    have h3 := h2.kept (S' := fun k => k = Q ∨ (Value.slice AV (n + 1) cV).ownBlock = some k ∨ some g5 = some k ∨ Vp.ownBlock = some k) hc5 (fun k hk => .inl (.inr (.inl hk))) (fun k hk => by
      rcases hk with e | e | e | e
      · exact .inl (.inl e)
      · exact .inl (.inr (.inl e))
      · injection e with e
        subst e
        rcases hat with e | e
        · exact .inl (.inr (.inl e))
        · exact .inr e
      · exact .inl (.inr (.inr e)))
    refine h3.kept hset (fun k hk => .inl (.inl hk)) (fun k hk => ?_)
    rcases hk with e | e | e
    · exact .inl (.inl e)
    · exact .inl (.inr (.inr (.inl e)))
    · exact .inl (.inr (.inr (.inr e)))
  · exact ownsRow_kept (ownsRow_kept (ownsRow_kept h.pk hc (fun _ _ x => x)) hc5 (fun k hk hk2 => (h.neF k hk2).2.2 hk)) hset (fun k hk e => (h.neP k hk).1 e)
  · have hk : some g5 = some k := hk
    injection hk with hk
    subst hk
    exact ⟨hgQ, hg0, hgP⟩
  · have h1 : Below w0.heap.size wr wx := hc.below (fun _ x => x.elim) h.bel.size
    have h2 : Below w0.heap.size wx w5 := hc5.below (fun k hk => (h.neF k hk).2.1) (Nat.le_trans h.bel.size h1.size)
    exact ((h.bel.trans h1).trans h2).trans (hset.below (fun k e => by have e : k = Q := e; rw [e]; exact h.q) (Nat.le_trans (Nat.le_trans h.bel.size h1.size) h2.size))
/-- one pick more -/
theorem EvC.pick {w0 wr wx w5 : World} {Q j n : Nat} {Vf : Value} {AP : Option Addr} {cP : Nat} (h : EvC w0 wr Q n j Vf (.slice AP j cP)) (hc : Chg (fun _ => False) wr wx) {g5 cap5 : Nat}
    (ho5 : w5.ownsRow 0 2 1 (.slice (some ⟨g5, 0, none⟩) (j + 1) cap5) (j + 1) (nums (List.replicate j 1) ++ [.int .i64 1])) (hc5 : Chg (fun k => (Value.slice AP j cP).ownBlock = some k) wx w5) (hat : (Value.slice AP j cP).ownBlock = some g5 ∨ wx.heap.size ≤ g5) :
    EvC w0 w5 Q n (j + 1) Vf (.slice (some ⟨g5, 0, none⟩) (j + 1) cap5) := by
  obtain ⟨xs, hrow, hz⟩ := h.row
  have hVl := ownsRow_lt hrow
  have hQl := lt_of_heap h.box
  have hsz := hc.size
  refine ⟨hc5.heap (hc.heap h.box (fun x => x)) (fun e => (h.neP Q e).1 rfl), ⟨xs, ownsRow_kept (ownsRow_kept hrow hc (fun _ _ x => x)) hc5 (fun k hk hk2 => (h.neF k hk).2.2 hk2), ?_⟩, ?_, fun k hk => ?_, fun k hk => ?_, h.q, ?_⟩
  · have h1 := hz.kept (S' := fun k => k = Q ∨ Vf.ownBlock = some k ∨ (Value.slice AP j cP).ownBlock = some k) hc (fun _ x => x.elim) (fun _ x => .inl x)
    refine h1.kept hc5 (fun k hk => .inl (.inr (.inr hk))) (fun k hk => ?_)
    rcases hk with e | e | e
    · exact .inl (.inl e)
    · exact .inl (.inr (.inl e))
    · have e : some g5 = some k := e
      injection e with e
      subst e
      rcases hat with e | e
      · exact .inl (.inr (.inr e))
      · exact .inr e
  · rw [ones_succ]; exact ho5
  · obtain ⟨a, b, c⟩ := h.neF k hk
    refine ⟨a, b, fun e => ?_⟩
    have e : some g5 = some k := e
    injection e with e
    subst e
    rcases hat with e | e
    · exact c e
    · have := hVl _ hk; omega
  · have hk : some g5 = some k := hk
    injection hk with hk
    subst hk
    rcases hat with e | e
    · exact h.neP _ e
    · have := h.bel.size; exact ⟨by omega, by omega⟩
  · have h1 : Below w0.heap.size wr wx := hc.below (fun _ x => x.elim) h.bel.size
    exact (h.bel.trans h1).trans (hc5.below (fun k hk => (h.neP k hk).2) (Nat.le_trans h.bel.size h1.size))
theorem code_f0 (B : Nat) (w : World) : (Instr.field 28 (.agg #[.slice (some ⟨B, 0, none⟩) 2 2]) 0).run Tryd.prog w = .ok (.slice (some ⟨B, 0, none⟩) 2 2) w := by kernel_rfl
set_option maxHeartbeats 8000000 in
set_option maxRecDepth 100000 in
theorem tierEvicts_walk (W : World) (room0 n0 : Int) (hL : TxtIs W) (wfr : (Lit.int .i64 room0).wf = true) (wfn : (Lit.int .i64 n0).wf = true) :
    Calls Tryd.prog 4 #[.int .i64 room0, .int .i64 n0] W fun e w' => e = .returned (.bool true) ∧ Below W.heap.size W w' := by
  obtain ⟨r1, hr1, hr8⟩ := tmod_natE (bits .and .i64 room0 65535) 8 (by rw [and_mask16]; omega) (by omega)
  obtain ⟨n1, hn1, hn12⟩ := tmod_natE (bits .and .i64 n0 65535) 12 (by rw [and_mask16]; omega) (by omega)
  have hr1 : (bits .and .i64 room0 65535).tmod 8 = (r1 : Int) := hr1
  have hn1 : (bits .and .i64 n0 65535).tmod 12 = (n1 : Int) := hn1
  have CS := Lib.hid (tshown_any hL)
  clear hL wfr wfn
  obtain ⟨i1, hji, hy0, hy1, hy2⟩ := info_parts (show (Tryd.prog.info? 2).map (fun i => (i.zero, i.size, i.bytes)) = some (some (.int .i64 0), 1, 8) by kernel_rfl)
  obtain ⟨i0, hi, hz0, hz1, hz2⟩ := info_parts infoFn
  have hF0 := code_f0
  go_enter Tryd.func4, Tryd.ntmps4
  go_wp2_with fail
  refine CS.out.mono ?_
  rintro e wa ⟨rfl, hba⟩
  have HBA : Hid (Below W.heap.size W wa) := Lib.hid hba
  clear hba CS
  go_upto_region 4 with fail
  clear hr1 hn1
  obtain ⟨r, hr⟩ : ∃ r : Nat, r = 1 + r1 := ⟨_, rfl⟩
  obtain ⟨n, hn⟩ : ∃ n : Nat, n = 1 + n1 := ⟨_, rfl⟩
  have er : (1 + (r1 : Int)) = (r : Int) := by omega
  have en : (1 + (n1 : Int)) = (n : Int) := by omega
  simp only [er, en]
  have hrb : 1 ≤ r ∧ r ≤ 8 := by omega
  have hnb : 1 ≤ n ∧ n ≤ 12 := by omega
  clear er en hr hn hr8 hn12
  go_wp2_with fail
  refine (pair_any wa).mono ?_
  rintro e w1 ⟨b1, b2, b3, rfl, h1, h2, h3, ⟨_, _, h3l, _, _, hb23⟩, hb⟩
  have HB1 : Hid (Below W.heap.size W w1) := Lib.hid (HBA.out.trans (hb.mono HBA.out.size))
  have H12 := Lib.hid (And.intro h1 h2)
  have q0 := cell_of_block h3 0
  have q1 := cell_of_block h3 1
  have q2 := cell_of_block h3 2
  have q3 := cell_of_block h3 3
  have q4 := cell_of_block h3 4
  simp at q0 q1 q2 q3 q4
  have HB23 := Lib.hid hb23
  obtain ⟨R, hR⟩ : ∃ z, z = w1.heap.size := ⟨_, rfl⟩
  obtain ⟨w2, hw2⟩ : ∃ z, z = w1.alloc (.cells #[.string ⟨#[]⟩, .int .i64 0, .int .i64 0, .int .i64 0, .slice (some ⟨b2, 0, none⟩) 2 2] 39) := ⟨_, rfl⟩
  obtain ⟨Q, hQ⟩ : ∃ z, z = w2.heap.size := ⟨_, rfl⟩
  obtain ⟨w3, hw3⟩ : ∃ z, z = w2.alloc (.cells #[.slice (some ⟨R, 0, none⟩) 1 1] 28) := ⟨_, rfl⟩
  have s2 : w2.heap.size = R + 1 := by rw [hw2, hR]; simp
  have c2 : Chg (fun _ => False) w1 w2 := by rw [hw2]; exact (Chg.refl _ _).alloc _
  have c3 : Chg (fun _ => False) w2 w3 := by rw [hw3]; exact (Chg.refl _ _).alloc _
  have hEC : EvC w1 w3 Q 0 0 (.slice (some ⟨R, 0, none⟩) 1 1) (.slice none 0 0) := by
    have hbR : w3.heap[R]? = some (.cells #[.string ⟨#[]⟩, .int .i64 0, .int .i64 0, .int .i64 0, .slice (some ⟨b2, 0, none⟩) 2 2] 39 (0, 0)) := c3.heap (by rw [hw2]; exact heap_new' hR.symm) (fun x => x)
    refine ⟨by rw [hw3]; exact heap_new' hQ.symm, ⟨[.string ⟨#[]⟩, .int .i64 0, .int .i64 0, .int .i64 0, .slice (some ⟨b2, 0, none⟩) 2 2], ⟨rfl, .inr ⟨R, 1, _, rfl, Nat.zero_le _, hbR, Nat.le_refl _, by simp [maxLen], rfl, rfl⟩⟩, fun j f hf => ?_⟩, World.ownsRow_nil _ _ _ _, fun k hk => ?_, (fun k hk => by cases hk), by omega, (c2.then c3).to_below⟩
    · match j, hf with
      | 0, hf =>
        have hf : pairM = f := Option.some.inj hf
        subst hf
        have hb2 := (c2.then c3).heap h2 (fun x => x)
        refine ⟨_, 2, ⟨rfl, rfl, rfl, rfl, rfl⟩, src_ins rfl hb2 (by show 2 ≤ maxLen; simp [maxLen]), fun k hk => ?_⟩
        have hk : some b2 = some k := hk
        injection hk with hk
        subst hk
        have hl2 := lt_of_heap h2
        refine ⟨fun hs => ?_, lt_of_heap hb2⟩
        rcases hs with e | e | e
        · omega
        · have e : some R = some b2 := e
          injection e with e
          omega
        · cases e
    · have hk : some R = some k := hk
      injection hk with hk
      subst hk
      exact ⟨by omega, by omega, by simp [Value.ownBlock]⟩
  have HEC := Lib.hid hEC
  have HQR : Hid (R + 1 = Q) := Lib.hid (by rw [hQ, s2])
  have HW3 := Lib.hid (And.intro hw2 (And.intro hw3 (And.intro hR hQ)))
  clear h1 h2 h3 hb h3l hb23 hEC c2 c3 s2 hw2 hw3 hR hQ HBA
  go_upto_region 6 with fail
  rw [← HW3.out.2.2.1, ← HW3.out.1, HQR.out, ← HW3.out.2.1]
  clear q0 q1 q2 q3 q4
  go_wp2_with fail
  go_loopg [7, 8] (n + 1) (fun z V i wr => ∃ (j : Nat) (AP : Option Addr) (cP : Nat) (Vf : Value), j ≤ n ∧ z = n + 1 - j ∧ i = .int .i64 j ∧ V = .slice AP j cP ∧ Hid (EvC w1 wr Q j j Vf (.slice AP j cP)))
  case atStart => exact ⟨0, none, 0, _, by omega, rfl, rfl, rfl, HEC⟩
  case round =>
    obtain ⟨j, AP, cP, Vf, hj, hz, rfl, rfl, HE⟩ := hrel
    have HZ := Lib.hid hz
    clear hz HEC
    by_cases hlt : j < n
    · obtain ⟨xs, hrow, hzc⟩ := HE.out.row
      obtain ⟨_, AV, cV, rfl⟩ := ownsRow_slice hrow
      have HR := Lib.hid (And.intro hrow hzc)
      clear hrow hzc
      go_upto_region 9 with fail
      obtain ⟨wd, hwd⟩ : ∃ z, z = wr.drew := ⟨_, rfl⟩
      have hcd : Chg (fun _ => False) wr wd := by rw [hwd]; exact (Chg.refl _ _).drew
      have hS : wd.cell? ⟨Q, 0, none⟩ = some (.slice AV (j + 1) cV) := by
        have h := cell_of_block (hcd.heap HE.out.box (fun x => x)) 0
        simpa using h
      have HCD := Lib.hid hcd
      clear hcd
      have CP : Hid (Calls Tryd.prog 8 #[] wd fun e w' => ∃ v, e = .returned v ∧ ∃ b1 b2 b3, v = .agg #[.slice (some ⟨b3, 0, none⟩) 2 2] ∧ w'.heap[b1]? = some (.cells (insCells pairF.l).toArray 44 (0, 0)) ∧ w'.heap[b2]? = some (.cells (insCells pairM.l).toArray 44 (0, 0)) ∧
          w'.heap[b3]? = some (.cells #[.string ⟨#[]⟩, .int .i64 0, .int .i64 0, .int .i64 0, .slice (some ⟨b2, 0, none⟩) 2 2, .string ⟨#[102]⟩, .int .i64 1, .int .i64 1, .int .i64 0, .slice (some ⟨b1, 0, none⟩) 4 4] 39 (0, 0)) ∧ (wd.heap.size ≤ b1 ∧ wd.heap.size ≤ b2 ∧ wd.heap.size ≤ b3 ∧ b1 ≠ b2 ∧ b1 ≠ b3 ∧ b2 ≠ b3) ∧ Below wd.heap.size wd w') := Lib.hid ((pair_any wd).mono (by rintro e w1 ⟨b1, b2, b3, rfl, h⟩; exact ⟨_, rfl, b1, b2, b3, rfl, h⟩))
      refine wp_region_ord (S := fun w' => w'.cell? ⟨Q, 0, none⟩ = some (.slice AV (j + 1) cV)) (N := fun i => i != 9) (by kernel_rfl) [(0, true), (1, true), (2, false), (3, true), (4, true), (5, false), (6, false), (7, false), (8, true), (9, false)] (by kernel_rfl) ?_
      rw [← hwd]
      clear hwd
      iterate 2 (refine ord_look rfl hS rfl (by intro w hS; go_simp; with_reducible rfl) (fun c a w h => h) ?_; simp only [Act.put, List.setIfInBounds_toArray, List.set_cons_succ, List.set_cons_zero])
      refine ord_act rfl rfl (fun K hK => ?_)
      refine wp_call 8 _ _ Tryd.func8 rfl (by kernel_rfl) _ _ rfl #[] (by simp [Act.eval]) (calls_ret CP.out (by rintro e w1 ⟨v', rfl, h⟩; exact ⟨_, rfl, h⟩)) ?_
      rintro v wp ⟨b1, b2, b3, rfl, h1, h2, h3, ⟨h1l, _⟩, hbp⟩
      have hcp : Chg (fun _ => False) wd wp := Below.chg hbp
      have hSp : wp.cell? ⟨Q, 0, none⟩ = some (.slice AV (j + 1) cV) := hcp.cell hS (fun x => x)
      refine hK _ _ ⟨fun _ => hSp, ?_⟩
      clear hK K hS
      try simp only [Act.put, List.setIfInBounds_toArray, List.set_cons_succ, List.set_cons_zero]
      iterate 2 (refine ord_look rfl hSp rfl (by intro w hS; go_simp; with_reducible rfl) (fun c a w h => h) ?_; simp only [Act.put, List.setIfInBounds_toArray, List.set_cons_succ, List.set_cons_zero])
      have q0 := cell_of_block h3 5
      have q1 := cell_of_block h3 6
      have q2 := cell_of_block h3 7
      have q3 := cell_of_block h3 8
      have q4 := cell_of_block h3 9
      simp at q0 q1 q2 q3 q4
      have H1 := Lib.hid (And.intro h1 (And.intro h1l hcp))
      clear h1 h1l hcp h2 h3 hbp
      refine ord_act rfl rfl (fun K hK => ?_)
      go_simp
      refine hK _ _ ⟨fun _ => hSp, ?_⟩
      clear hK K q0 q1 q2 q3 q4
      try simp only [Act.put, List.setIfInBounds_toArray, List.set_cons_succ, List.set_cons_zero]
      refine ord_act rfl rfl (fun K hK => ?_)
      go_simp
      obtain ⟨wx, hwx⟩ : ∃ z, z = wp.alloc (.cells #[.string ⟨#[102]⟩, .int .i64 1, .int .i64 1, .int .i64 0, .slice (some ⟨b1, 0, none⟩) 4 4] 39) := ⟨_, rfl⟩
      obtain ⟨g, hg⟩ : ∃ z, z = wp.heap.size := ⟨_, rfl⟩
      rw [← hwx, ← hg]
      have hcx : Chg (fun _ => False) wp wx := by rw [hwx]; exact (Chg.refl _ _).alloc _
      have hgx : wx.heap[g]? = some (.cells #[.string ⟨#[102]⟩, .int .i64 1, .int .i64 1, .int .i64 0, .slice (some ⟨b1, 0, none⟩) 4 4] 39 (0, 0)) := by rw [hwx]; exact heap_new' hg.symm
      have hsx : wx.heap.size = g + 1 := by rw [hwx, hg]; simp
      have hSx : wx.cell? ⟨Q, 0, none⟩ = some (.slice AV (j + 1) cV) := hcx.cell hSp (fun x => x)
      refine hK _ _ ⟨fun _ => hSx, ?_⟩
      clear hK K hSp
      try simp only [Act.put, List.setIfInBounds_toArray, List.set_cons_succ, List.set_cons_zero]
      have hcrx : Chg (fun _ => False) wr wx := (HCD.out.then H1.out.2.2).then hcx
      have HCX := Lib.hid hcrx
      have HB1x := Lib.hid (hcx.heap H1.out.1 (fun x => x))
      have hrowx := ownsRow_kept HR.out.1 hcrx (fun _ _ x => x)
      have hnews := World.news_of_block hgx
      clear hwx hg hcx hgx hcrx
      refine ord_act rfl rfl (fun K hK => ?_)
      refine wp_append_lies _ (.tmp 42) (.tmp 47) 26 rfl 0 39 i0 _ 5 64 Tryd.underlying26 hi hz0 hz1 hz2 rfl (by omega) (.slice AV (j + 1) cV) (j + 1) xs rfl hrowx ⟨g, 0, none⟩ 1 1 [.string ⟨#[102]⟩, .int .i64 1, .int .i64 1, .int .i64 0, .slice (some ⟨b1, 0, none⟩) 4 4] rfl rfl hnews (by simp [Value.oneCell']) (by omega) (by unfold maxLen; omega) (by omega) (by omega) (g + 1) hsx ?_
      intro g5 cap5 w5 hown5 hgrow5 hat5 hlt5
      have hc5 := Chg.of_grown hgrow5
      have hE2 := HE.out.fn HCX.out HB1x.out (by have := H1.out.2.1; have := HCD.out.size; omega) HR.out.1 HR.out.2 hown5 hc5 (hat5.imp id (fun e => by omega))
      have hbox5 := hc5.heap (HCX.out.heap HE.out.box (fun x => x)) (fun e => (HE.out.neF Q e).1 rfl)
      have hS5 : w5.cell? ⟨Q, 0, none⟩ = some (.slice AV (j + 1) cV) := by
        have h := cell_of_block hbox5 0
        simpa using h
      have fS5 := frozen_of_block hbox5 0
      have HE2 := Lib.hid hE2
      refine hK _ _ ⟨fun _ => hS5, ?_⟩
      clear hK K hSx hrowx hnews hown5 hgrow5 hat5 hlt5 hc5 hE2 hbox5 hsx
      try simp only [Act.put, List.setIfInBounds_toArray, List.set_cons_succ, List.set_cons_zero]
      (refine ord_look rfl hS5 rfl (by intro w hS; go_simp; with_reducible rfl) (fun c a w h => h) ?_; simp only [Act.put, List.setIfInBounds_toArray, List.set_cons_succ, List.set_cons_zero])
      refine ord_act rfl rfl (fun K hK => ?_)
      go_simp
      refine hK _ _ ⟨fun h => absurd h (by decide), ?_⟩
      clear hK K hS5 fS5
      refine ord_end ?_
      try simp only [Act.put, List.setIfInBounds_toArray, List.set_cons_succ, List.set_cons_zero]
      obtain ⟨w6, hw6⟩ : ∃ z, z = w5.setCell ⟨Q, 0, none⟩ (.slice (some ⟨g5, 0, none⟩) (j + 1 + 1) cap5) := ⟨_, rfl⟩
      rw [← hw6] at HE2 ⊢
      clear hw6
      obtain ⟨w7, hw7⟩ : ∃ z, z = w6.alloc (.cells #[.int .i64 1] 2) := ⟨_, rfl⟩
      have hc7 : Chg (fun _ => False) w6 w7 := by rw [hw7]; exact (Chg.refl _ _).alloc _
      have HNEW : Hid (∀ (i : Nat) u, ([.int .i64 1] : List Value)[i]? = some u → w7.cell? ((⟨w6.heap.size, 0, none⟩ : Addr).add i) = some u) := Lib.hid (World.news_of_block (cs := #[.int .i64 1]) (t := 2) (fr := (0, 0)) (by rw [hw7]; exact heap_new _ _))
      have HPK := Lib.hid (ownsRow_kept HE2.out.pk hc7 (fun _ _ x => x))
      have HSZ : Hid (w7.heap.size = w6.heap.size + 1) := Lib.hid (by rw [hw7]; simp)
      have HC7 := Lib.hid hc7
      have HW7 := Lib.hid hw7
      clear hc7 hw7
      go_wp2_with (at_builtin; rw [← HW7.out]; refine wpList_append_lies _ rfl _ _ _ rfl 0 2 i1 _ 1 8 Tryd.underlying22 hji hy0 hy1 hy2 rfl (by omega) (.slice AP j cP) j (nums (List.replicate j 1)) rfl HPK.out ⟨w6.heap.size, 0, none⟩ 1 1 [.int .i64 1] rfl rfl HNEW.out (by simp [Value.oneCell']) (by omega) (by unfold maxLen; omega) (by omega) (by omega) (w6.heap.size + 1) HSZ.out ?_; intro g8 cap8 w8 hown8 hgrow8 hat8 hlt8; have HC8 := Lib.hid (And.intro hown8 (And.intro (Chg.of_grown hgrow8) hat8)); clear hown8 hgrow8 hat8 hlt8)
      have HE3 := Lib.hid (HE2.out.pick HC7.out HC8.out.1 HC8.out.2.1 (HC8.out.2.2.imp id (fun e => by have := HSZ.out; omega)))
      go_roundg (n + 1 - (j + 1))
      case measure => have := HZ.out; omega
      case rel => exact ⟨j + 1, _, _, _, by omega, rfl, by go_num, rfl, HE3⟩
    · obtain rfl : j = n := by omega
      obtain ⟨xs, hrow, hzc⟩ := HE.out.row
      obtain ⟨_, AV, cV, rfl⟩ := ownsRow_slice hrow
      have hbox := cell_of_block HE.out.box 0
      simp at hbox
      have hfn : FnsIs wr (.slice AV (j + 1) cV) (evF j) := FnsIs.of_row (by rw [evF_len]; exact hrow) hzc.cells
      have hpk : NumSrc wr (.slice AP j cP) (List.replicate j 1) := NumSrc.of_row (t := 2) (by rw [List.length_replicate]; exact HE.out.pk)
      have hfs : ∀ f ∈ evF j, f.l.length ≤ 1048576 ∧ ∀ y ∈ f.l, Full y := fun f hf => by
        have hf : f = pairM ∨ f = pairF := by
          unfold evF at hf
          rcases List.mem_cons.1 hf with e | e
          · exact .inl e
          · exact .inr (List.eq_of_mem_replicate e)
        rcases hf with rfl | rfl
        · refine ⟨by decide, fun y hy => ?_⟩
          rcases List.mem_cons.1 hy with rfl | hy
          · constructor <;> (unfold In64; simp)
          · rw [List.mem_singleton.1 hy]
            constructor <;> (unfold In64; simp)
        · refine ⟨by decide, fun y hy => ?_⟩
          have hy : y = ⟨2, 0, 0⟩ ∨ y = ⟨1, 0, 3⟩ ∨ y = ⟨8, 0, 0⟩ ∨ y = ⟨18, 0, 0⟩ := by simpa [pairF] using hy
          rcases hy with rfl | rfl | rfl | rfl <;> (constructor <;> (unfold In64; simp))
      have CN := Lib.hid (tnew_any (w := wr) (A := AV) (cA := cV) (fs := evF j) (Vp := .slice none 0 0) (pub := []) (B := AP) (n := j) (cB := cP) (picks := List.replicate j 1) (r : Int) (by rw [evF_len]; exact hfn) ⟨none, 0, rfl, Nat.le_refl _, Nat.zero_le _, fun h => by simp at h⟩ hpk (by omega) (by rw [evF_len]; omega) hfs (by simp) (fun r hr => by cases hr) (fun z hz => by rw [List.eq_of_mem_replicate hz]; unfold In64; omega))
      rw [evF_len] at CN
      have hcap : clampc (r : Int) = (r : Int) := by unfold clampc; omega
      rw [hcap] at CN
      have HBR := Lib.hid (HB1.out.trans (HE.out.bel.mono HB1.out.size))
      clear hrow hzc hfn hpk hfs hcap HE
      go_wp2_with fail
      refine CN.out.mono ?_
      rintro e u0 ⟨m, g0, x, rfl, htc, hlo, hb5⟩
      have hM : TM W u0 g0 m r 0 x ⟨evF j, [], List.replicate j 1, [], fun _ => none, []⟩ := ⟨htc, tinv_new _ _ _ _, fun k hk => Nat.le_trans HBR.out.size (hlo k hk), HBR.out.trans (hb5.mono HBR.out.size)⟩
      have hEI : EInv r j 0 ⟨evF j, [], List.replicate j 1, [], fun _ => none, []⟩ := ⟨rfl, rfl, by rw [Nat.sub_zero], by simp [evC], fun _ => rfl, by simp [goneV]⟩
      have HM0 := Lib.hid hM
      have HEI := Lib.hid hEI
      clear htc hlo hb5 hM hEI CN hbox HBR
      go_wp2_with fail
      go_loopg [10] (j + 1) (fun z i wr => ∃ (t np : Nat) (g : Nat → Nat) (T : TS), t ≤ j ∧ z = j + 1 - t ∧ i = .int .i64 ((t : Int) + 1) ∧ np ≤ 10 * t ∧ Hid (TM W wr g m r np x T) ∧ Hid (EInv r j t T))
      case atStart => exact ⟨0, 0, g0, _, by omega, rfl, by go_num, by omega, HM0, HEI⟩
      case round =>
        clear HM0 HEI
        obtain ⟨t, np, g, T, ht, hz, rfl, hnp, HM, HI⟩ := hrel
        have HZ := Lib.hid hz
        clear hz
        by_cases htl : t < j
        · obtain ⟨wv, hwv⟩ : ∃ z, z = wr.alloc (.cells #[.int .i64 3] 2) := ⟨_, rfl⟩
          obtain ⟨e1, e2⟩ := ev_first HI.out hrb.1 htl [3]
          have CE := Lib.hid (HM.out.enter1 hwv ((t : Int) + 1) e1 (n := 4) rfl (by omega))
          have HWV := Lib.hid hwv
          have HI2 := Lib.hid e2
          clear hwv e1 e2
          have htj : (t : Int) + 1 ≤ (j : Int) := by omega
          go_wp2_with fail
          rw [← HWV.out]
          refine CE.out.mono ?_
          rintro e wy ⟨A5, c5, g', rfl, _, _, hM, _, hC⟩
          have HM2 := Lib.hid hM
          clear hM hC CE
          go_wp2_with fail
          go_roundg (j + 1 - (t + 1))
          case measure => have := HZ.out; omega
          case rel => exact ⟨t + 1, np + 10, g', _, by omega, rfl, by go_num, by omega, HM2, HI2⟩
        · obtain rfl : t = j := by omega
          have HJ2 := Lib.hid HI.out.second
          have htj : ¬ (t : Int) + 1 ≤ (t : Int) := by omega
          clear HI
          go_wp2_with fail
          go_loopg [14] (t + 1) (fun z i wr => ∃ (s np : Nat) (g : Nat → Nat) (T : TS), s ≤ t ∧ z = t + 1 - s ∧ i = .int .i64 ((s : Int) + 1) ∧ np ≤ 10 * t + 10 * s ∧ Hid (TM W wr g m r np x T) ∧ Hid (EInv2 r t T))
          case atStart => exact ⟨0, np, g, T, by omega, rfl, by go_num, by omega, HM, HJ2⟩
          case round =>
            clear HM HJ2 htj
            obtain ⟨s, np2, g2, T2, hs, hz, rfl, hnp2, HM2, HI2⟩ := hrel
            have HZ2 := Lib.hid hz
            clear hz
            by_cases hsl : s < t
            · obtain ⟨wv, hwv⟩ : ∃ z, z = wr.alloc (.cells #[.int .i64 3] 2) := ⟨_, rfl⟩
              obtain ⟨⟨body, e1⟩, e2⟩ := ev_second HI2.out hsl [3]
              obtain ⟨bl, hbl⟩ : ∃ z, body.length = z := ⟨_, rfl⟩
              obtain ⟨bo, hbo⟩ : ∃ z, z = decide (t - r < s + 1) := ⟨_, rfl⟩
              rw [← hbo] at e1
              have hbo2 : bo = decide ((t : Int) - (r : Int) < (s : Int) + 1) := by rw [hbo]; exact decide_eq_decide.2 (by omega)
              have CE := Lib.hid (HM2.out.enter1 hwv ((s : Int) + 1) e1 hbl (by omega))
              have HWV := Lib.hid hwv
              have HI3 := Lib.hid e2
              have hsj : (s : Int) + 1 ≤ (t : Int) := by omega
              clear hwv e1 e2 hbo hbl
              by_cases hc : (t : Int) - (r : Int) < (s : Int) + 1
              · obtain rfl : bo = true := by rw [hbo2, decide_eq_true hc]
                clear hbo2
                go_wp2_with fail
                rw [← HWV.out]
                refine CE.out.mono ?_
                rintro e wy ⟨A5, c5, g', rfl, _, _, hM, _, hC⟩
                have HM3 := Lib.hid hM
                clear hM hC CE
                go_wp2_with fail
                go_roundg (t + 1 - (s + 1))
                case measure => have := HZ2.out; omega
                case rel => exact ⟨s + 1, np2 + 10, g', _, by omega, rfl, by go_num, by omega, HM3, HI3⟩
              · obtain rfl : bo = false := by rw [hbo2, decide_eq_false hc]
                clear hbo2
                go_wp2_with fail
                rw [← HWV.out]
                refine CE.out.mono ?_
                rintro e wy ⟨A5, c5, g', rfl, _, _, hM, _, hC⟩
                have HM3 := Lib.hid hM
                clear hM hC CE
                go_wp2_with fail
                go_roundg (t + 1 - (s + 1))
                case measure => have := HZ2.out; omega
                case rel => exact ⟨s + 1, np2 + 10, g', _, by omega, rfl, by go_num, by omega, HM3, HI3⟩
            · obtain rfl : s = t := by omega
              have CV := Lib.hid (HM2.out.events (by omega))
              have hgo := HI2.out.evs
              have hle := HM2.out.tc.small.2.2
              obtain ⟨evs, hevs⟩ : ∃ z, z = T2.evs := ⟨_, rfl⟩
              rw [← hevs] at CV hgo hle
              obtain ⟨ne, hne⟩ : ∃ z, z = evs.length := ⟨_, rfl⟩
              rw [← hne] at CV hle
              have HGO := Lib.hid (And.intro hgo hne)
              have hsj : ¬ (s : Int) + 1 ≤ (s : Int) := by omega
              clear hgo hevs hne HI2
              go_wp2_with fail
              refine CV.out.mono ?_
              rintro e wy ⟨VE, rfl, hrow, _, hM, _⟩
              obtain ⟨_, A7, c7, rfl⟩ := ownsRow_slice hrow
              have HRW := Lib.hid (And.intro hrow hM.bel)
              clear hrow hM CV hsj HM2
              have hne63 : ne ≤ 1048576 := by omega
              go_wp2_with fail
              go_loopg [18, 20] (ne + 1) (fun z a i wr => ∃ p gg : Nat, p ≤ ne ∧ gg ≤ p ∧ z = ne + 1 - p ∧ a = .int .i64 gg ∧ i = .int .i64 p ∧ Hid (goneV (evs.take p) = some gg) ∧ wr = wy)
              case atStart => exact ⟨0, 0, by omega, by omega, rfl, rfl, rfl, Lib.hid rfl, rfl⟩
              case round =>
                obtain ⟨p, gg, hp, hgp, hz, rfl, rfl, HG, rfl⟩ := hrel
                have HZ3 := Lib.hid hz
                clear hz
                by_cases hpl : p < ne
                · have hpe : p < evs.length := by rw [← HGO.out.2]; exact hpl
                  obtain ⟨gE, cE, hsl2, _, hcell⟩ := ownsRow_at HRW.out.1 (by omega)
                  injection hsl2 with e1 _ e3
                  subst e1 e3
                  obtain ⟨v0, v1⟩ := evCells_get _ _ _ (List.getElem?_eq_getElem hpe)
                  have v0 := hcell _ _ v0
                  have v1 := hcell _ _ v1
                  have htk := List.take_succ_eq_append_getElem hpe
                  obtain ⟨⟨k, f⟩, he⟩ : ∃ z, z = evs[p] := ⟨_, rfl⟩
                  rw [← he] at v0 v1 htk
                  simp only at v0 v1
                  obtain ⟨g', hg'⟩ := gone_take HGO.out.1 (p + 1)
                  rw [htk, gone_snoc, HG.out] at hg'
                  unfold goneS at hg'
                  simp only at hg'
                  have HTK := Lib.hid htk
                  clear hcell he htk
                  by_cases hk : k = 4
                  · subst hk
                    rw [if_pos rfl] at hg'
                    have hf : f = (gg : Int) + 1 := by
                      by_cases h : f = (gg : Int) + 1
                      · exact h
                      · rw [if_neg h] at hg'; cases hg'
                    have HG2 : Hid (goneV (evs.take (p + 1)) = some (gg + 1)) := Lib.hid (by
                      rw [HTK.out, gone_snoc, HG.out]
                      unfold goneS
                      simp only
                      first | rw [if_pos rfl, if_pos hf] | simp only [if_true, if_pos hf])
                    subst hf
                    clear hg'
                    go_wp2_with fail
                    go_roundg (ne + 1 - (p + 1))
                    case measure => have := HZ3.out; omega
                    case rel => exact ⟨p + 1, gg + 1, by omega, by omega, rfl, by go_num, by go_num, HG2, rfl⟩
                  · have hk2 : (k == 4) = false := by rw [beq_eq_false_iff_ne]; exact hk
                    have HG2 : Hid (goneV (evs.take (p + 1)) = some gg) := Lib.hid (by
                      rw [HTK.out, gone_snoc, HG.out]
                      unfold goneS
                      simp only
                      rw [if_neg hk])
                    clear hg'
                    go_wp2_with fail
                    go_roundg (ne + 1 - (p + 1))
                    case measure => have := HZ3.out; omega
                    case rel => exact ⟨p + 1, gg, by omega, by omega, rfl, rfl, by go_num, HG2, rfl⟩
                · have hgg : gg = s - r := by
                    have h := HG.out
                    rw [show p = evs.length by rw [← HGO.out.2]; omega, List.take_length, HGO.out.1] at h
                    exact (Option.some.inj h).symm
                  have hmx : max ((s : Int) - (r : Int)) 0 = (gg : Int) := by omega
                  clear hgg
                  go_wp2_with fail
                  go_ret
                  exact ⟨rfl, HRW.out.2⟩
end Go.Proofs.YtgiegkacilfofabDoor
