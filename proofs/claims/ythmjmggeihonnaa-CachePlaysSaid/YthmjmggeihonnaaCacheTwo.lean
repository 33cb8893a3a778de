/- Two caches that have nothing to do with each other, nor with some blocks X. -/
import Derived.Test.YthmjmggeihonnaaCacheB
import Derived.Test.YthmjmggeihonnaaCacheStep
namespace Go.Proofs.Ythmjmggeihonnaa
set_option linter.unusedVariables false
set_option linter.unusedSimpArgs false
open Go.RowKit

structure C2 (w0 w : World) (X : Nat → Prop) (c1 c2 : Nat) (cap : Int) (n1 n2 : Nat) (l1 l2 : List (Int × List InsR)) : Prop where
  bel : Below w0.heap.size w0 w
  sets : ∃ S1 S2 : Nat → Prop, CacheIs w S1 c1 cap n1 l1 ∧ CacheIs w S2 c2 cap n2 l2 ∧ (∀ k, S1 k → ¬ S2 k) ∧ (∀ k, S1 k → w0.heap.size ≤ k ∧ k < w.heap.size ∧ ¬ X k) ∧ (∀ k, S2 k → w0.heap.size ≤ k ∧ k < w.heap.size ∧ ¬ X k)
  xlt : ∀ k, X k → k < w.heap.size

section
variable {w0 w : World} {X : Nat → Prop} {c1 c2 : Nat} {cap : Int} {n1 n2 : Nat} {l1 l2 : List (Int × List InsR)}
theorem C2.symm (h : C2 w0 w X c1 c2 cap n1 n2 l1 l2) : C2 w0 w X c2 c1 cap n2 n1 l2 l1 := by
  obtain ⟨hb, ⟨S1, S2, h1, h2, h3, h4, h5⟩, hx⟩ := h
  exact ⟨hb, ⟨S2, S1, h2, h1, fun k a b => h3 k b a, h5, h4⟩, hx⟩
theorem C2.other {w' : World} (h : C2 w0 w X c1 c2 cap n1 n2 l1 l2) (hc : Chg (fun _ => False) w w') : C2 w0 w' (Old X w w') c1 c2 cap n1 n2 l1 l2 := by
  obtain ⟨hb, ⟨S1, S2, h1, h2, h3, h4, h5⟩, hx⟩ := h
  exact ⟨hb.trans (hc.to_below.mono hb.size), ⟨S1, S2, h1.kept hc (fun _ _ x => x), h2.kept hc (fun _ _ x => x), h3,
    fun k hk => ⟨(h4 k hk).1, Nat.lt_of_lt_of_le (h4 k hk).2.1 hc.size, fun hX => hX.elim (h4 k hk).2.2 (fun e => by have := (h4 k hk).2.1; omega)⟩,
    fun k hk => ⟨(h5 k hk).1, Nat.lt_of_lt_of_le (h5 k hk).2.1 hc.size, fun hX => hX.elim (h5 k hk).2.2 (fun e => by have := (h5 k hk).2.1; omega)⟩⟩, fun k hk => hk.elim (fun h => Nat.lt_of_lt_of_le (hx k h) hc.size) (fun h => h.2)⟩
theorem C2.drewN (h : C2 w0 w X c1 c2 cap n1 n2 l1 l2) (m : Nat) : C2 w0 (w.drewN m) X c1 c2 cap n1 n2 l1 l2 := by
  have hc : Chg (fun _ => False) w (w.drewN m) := (Chg.refl _ _).drewN m
  obtain ⟨hb, ⟨S1, S2, h1, h2, h3, h4, h5⟩, hx⟩ := h
  exact ⟨hb.trans (hc.to_below.mono hb.size), ⟨S1, S2, h1.kept hc (fun _ _ x => x), h2.kept hc (fun _ _ x => x), h3, h4, h5⟩, hx⟩
theorem C2.free (h : C2 w0 w X c1 c2 cap n1 n2 l1 l2) : C2 w0 w (fun _ => False) c1 c2 cap n1 n2 l1 l2 := by
  obtain ⟨hb, ⟨S1, S2, h1, h2, h3, h4, h5⟩, hx⟩ := h
  exact ⟨hb, ⟨S1, S2, h1, h2, h3, fun k hk => ⟨(h4 k hk).1, (h4 k hk).2.1, fun x => x⟩, fun k hk => ⟨(h5 k hk).1, (h5 k hk).2.1, fun x => x⟩⟩, fun _ x => x.elim⟩
theorem C2.capok (h : C2 w0 w X c1 c2 cap n1 n2 l1 l2) : 1 ≤ cap ∧ cap ≤ 32 ∧ (l1.length : Int) ≤ cap := by obtain ⟨_, ⟨S1, S2, h1, _⟩, _⟩ := h; exact h1.capok
theorem C2.wf (h : C2 w0 w X c1 c2 cap n1 n2 l1 l2) : ∀ e ∈ l1, (Lit.int .i64 e.1).wf = true := by
  obtain ⟨_, ⟨S1, S2, hs, _⟩, _⟩ := h
  obtain ⟨vo, m, M, es, h, rfl⟩ := hs
  intro e he
  obtain ⟨y, hy, rfl⟩ := List.mem_map.1 he
  exact (h.ent y hy).1
theorem C2.new {w1 : World} {ca : Nat} (h : CB w0 w (fun _ => False) ca cap 0 []) (q : Int) (hq : clampc q = cap) :
    Calls Try.prog 10 #[.int .i64 q] w fun e w' => ∃ cb, e = .returned (.pointer (some ⟨cb, 0, none⟩)) ∧ C2 w0 w' (fun _ => False) ca cb cap 0 0 [] [] := by
  obtain ⟨hb, ⟨S, hs, h1⟩, _⟩ := h
  refine (cache_new_any q w).mono ?_
  rintro e w' ⟨c, rfl, h, hc⟩
  rw [hq] at h
  exact ⟨c, rfl, hb.trans (hc.to_below.mono hb.size), ⟨S, _, hs.kept hc (fun _ _ x => x), h.bound, fun k hk e => by have := (h1 k hk).2.1; have := e.1; omega, fun k hk => ⟨(h1 k hk).1, Nat.lt_of_lt_of_le (h1 k hk).2.1 hc.size, fun x => x⟩, fun k hk => ⟨Nat.le_trans hb.size hk.1, hk.2, fun x => x⟩⟩, fun _ x => x.elim⟩
theorem C2.held (h : C2 w0 w X c1 c2 cap n1 n2 l1 l2) (xs : List Int) (r : Nat) (hx : l1.map Prod.fst = xs) (hr : xs.length = r) :
    Calls Try.prog 18 #[.pointer (some ⟨c1, 0, none⟩)] w fun e w' => ∃ A cp, e = .returned (.slice A r cp) ∧ w'.ownsRow 0 3 1 (.slice A r cp) r (ints xs) ∧ Tmp w0 w' (Old X w w') (.slice A r cp) r (ints xs) ∧ C2 w0 w' (Old X w w') c1 c2 cap n1 n2 l1 l2 ∧ Chg (fun _ => False) w w' := by
  have h' := h
  obtain ⟨_, ⟨S1, S2, hs, _⟩, _⟩ := h
  refine (cache_held_any hs).mono ?_
  rintro e w' ⟨v, rfl, h1, h2, hc⟩
  have hl : l1.length = r := by rw [← hr, ← hx, List.length_map]
  rw [hx, hl] at h1
  obtain ⟨_, A, cp, rfl⟩ := ownsRow_slice h1
  exact ⟨A, cp, rfl, h1, ⟨Src.of_row h1, .inr fun k hk => .inr (.inr ⟨h2 k hk, ownsRow_lt h1 k hk⟩)⟩, h'.other hc, hc⟩
theorem C2.get (h : C2 w0 w X c1 c2 cap n1 n2 l1 l2) (fn : Int) (hf : (Lit.int .i64 fn).wf = true) (b : Bool) (body : List InsR) (hv : (getl l1 fn).isSome = b ∧ (getl l1 fn).getD [] = body) :
    Calls Try.prog 16 #[.pointer (some ⟨c1, 0, none⟩), .int .i64 fn] w fun e w' => ∃ A cp, e = .returned (.tuple #[.slice A body.length cp, .bool b]) ∧ Tmp w0 w' (Old X w w') (.slice A body.length cp) body.length (insCells body) ∧ C2 w0 w' (Old X w w') c1 c2 cap n1 n2 l1 l2 ∧ Chg (fun _ => False) w w' := by
  have h' := h
  obtain ⟨_, ⟨S1, S2, hs, _⟩, _⟩ := h
  refine (cache_get_any hs fn hf).mono ?_
  rintro e w' ⟨v, rfl, h1, h2, hc⟩
  rw [hv.2] at h1
  rw [hv.1]
  obtain ⟨_, A, cp, rfl⟩ := ownsRow_slice h1
  exact ⟨A, cp, rfl, ⟨Src.of_row h1, .inr fun k hk => .inr (.inr ⟨h2 k hk, ownsRow_lt h1 k hk⟩)⟩, h'.other hc, hc⟩
theorem C2.drop (h : C2 w0 w X c1 c2 cap n1 n2 l1 l2) (fn : Int) (hf : (Lit.int .i64 fn).wf = true) (b : Bool) (l' : List (Int × List InsR)) (hv : (getl l1 fn).isSome = b ∧ l1.filter (fun e => e.1 != fn) = l') :
    Calls Try.prog 14 #[.pointer (some ⟨c1, 0, none⟩), .int .i64 fn] w fun e w' => e = .returned (.bool b) ∧ C2 w0 w' X c1 c2 cap n1 n2 l' l2 ∧ Chg (fun k => w0.heap.size ≤ k ∧ ¬ X k) w w' := by
  obtain ⟨hb, ⟨S1, S2, h1, h2, h3, h4, h5⟩, hx⟩ := h
  have := cache_drop_any h1 fn hf
  rw [hv.1, hv.2] at this
  refine this.mono ?_
  rintro e w' ⟨rfl, h6, hc⟩
  exact ⟨rfl, ⟨hb.trans (hc.below (fun k hk => (h4 k hk).1) hb.size), ⟨S1, S2, h6, h2.kept hc (fun k a b => h3 k b a), h3, fun k hk => ⟨(h4 k hk).1, Nat.lt_of_lt_of_le (h4 k hk).2.1 hc.size, (h4 k hk).2.2⟩, fun k hk => ⟨(h5 k hk).1, Nat.lt_of_lt_of_le (h5 k hk).2.1 hc.size, (h5 k hk).2.2⟩⟩, fun k hk => Nat.lt_of_lt_of_le (hx k hk) hc.size⟩, hc.mono (fun k _ hk => ⟨(h4 k hk).1, (h4 k hk).2.2⟩)⟩
theorem C2.put (h : C2 w0 w X c1 c2 cap n1 n2 l1 l2) (fn : Int) (hf : (Lit.int .i64 fn).wf = true) (bv : Value) (body : List InsR) (ht : Tmp w0 w X bv body.length (insCells body)) (hbl : body.length ≤ 5864062014634) (hn : n1 ≤ 1048576) (gone : Int) (ev : Bool) (l' : List (Int × List InsR)) (hv : putv cap l1 fn body = (gone, ev, l')) :
    Calls Try.prog 13 #[.pointer (some ⟨c1, 0, none⟩), .int .i64 fn, bv] w fun e w' => e = .returned (.tuple #[.int .i64 gone, .bool ev]) ∧ C2 w0 w' X c1 c2 cap (n1 + 1) n2 l' l2 ∧ Chg (fun k => w0.heap.size ≤ k ∧ ¬ X k) w w' := by
  obtain ⟨hb, ⟨S1, S2, h1, h2, h3, h4, h5⟩, hx⟩ := h
  have := cache_put_any h1 fn hf bv body ht.src (ht.own.imp id (fun ho k hk e => (ho k hk).elim (fun x => by have := (h4 k e).1; omega) (h4 k e).2.2)) hbl hn
  rw [hv] at this
  refine this.mono ?_
  rintro e w' ⟨rfl, h6, hc⟩
  refine ⟨rfl, ⟨hb.trans (hc.below (fun k hk => (h4 k hk).1) hb.size), ⟨_, S2, h6.bound, h2.kept hc (fun k a b => h3 k b a), fun k hk e => ?_, fun k hk => ⟨?_, hk.2, ?_⟩, fun k hk => ⟨(h5 k hk).1, Nat.lt_of_lt_of_le (h5 k hk).2.1 hc.size, (h5 k hk).2.2⟩⟩, fun k hk => Nat.lt_of_lt_of_le (hx k hk) hc.size⟩, hc.mono (fun k _ hk => ⟨(h4 k hk).1, (h4 k hk).2.2⟩)⟩
  · rcases hk.1 with hk | hk
    · exact h3 k hk e
    · have := (h5 k e).2.1; omega
  · rcases hk.1 with hk | hk
    · exact (h4 k hk).1
    · exact Nat.le_trans hb.size hk
  · intro hX
    rcases hk.1 with hk | hk
    · exact (h4 k hk).2.2 hX
    · have := hx k hX; omega
end
theorem getl_mem {l : List (Int × List InsR)} {x : Int} (h : x ∈ l.map Prod.fst) : (getl l x).isSome = true := by
  obtain ⟨e, he, rfl⟩ := List.mem_map.1 h
  unfold getl
  rw [Option.isSome_map, List.find?_isSome]
  exact ⟨e, he, by simp⟩

/-- a step of the argument, in whatever world comes later -/
theorem cstep_cells {w : World} {A : Option Addr} {l : List CStep} (h : rdStep.C w A l) (j : Nat) (hj : j < l.length) :
    ∃ b off s A2 c2, A = some ⟨b, off, none⟩ ∧ l[j]? = some s ∧ b < w.heap.size ∧ (Lit.int .i64 s.kind).wf = true ∧ (Lit.int .i64 s.fn).wf = true ∧ s.body.length ≤ 5864062014634 ∧
      (∀ w0 wx X, w0 = w → Below w0.heap.size w0 wx → Tmp w0 wx X (.slice A2 s.body.length c2) s.body.length (insCells s.body)) ∧
      ∀ w0 wx, w0 = w → Below w0.heap.size w0 wx → wx.cell? ⟨b, off + j * 3, none⟩ = some (.int .i64 s.kind) ∧ wx.cell? ⟨b, off + j * 3 + 1, none⟩ = some (.int .i64 s.fn) ∧ wx.cell? ⟨b, off + j * 3 + 2, none⟩ = some (.slice A2 s.body.length c2) := by
  obtain ⟨b, off, rfl, hx⟩ := h (by omega)
  obtain ⟨cs, _, hc, c, rfl, w1, w2, A2, c2, hcc, hlc, hbb, hbody⟩ := hx j l[j] (List.getElem?_eq_getElem hj)
  simp only [List.cons.injEq, and_true] at hcc
  subst hcc
  have hc : cellsAt w b (off + j * 3) _ := hc
  refine ⟨b, off, l[j], A2, c2, rfl, List.getElem?_eq_getElem hj, World.block_lt_of_cell? w _ (hc 0 _ rfl), w1, w2, by omega, ?_, ?_⟩
  · rintro _ wx X rfl hb
    by_cases h0 : 0 < l[j].body.length
    · have hs := body_src hbody hlc hbb h0
      refine ⟨hs.kept (Chg.of_below hb (fun _ => False)) (.inr fun _ _ x => x), .inr fun k hk => .inl ?_⟩
      rcases hs with ⟨_, h1, _⟩ | ⟨b', o', c', e, hlt, _⟩
      · omega
      · rw [e] at hk
        injection hk with hk
        rw [← hk]
        exact hlt
    · have h1 : l[j].body = [] := List.length_eq_zero_iff.1 (by omega)
      rw [h1]
      exact ⟨.inl ⟨⟨A2, c2, rfl⟩, rfl, rfl⟩, .inl ⟨rfl, rfl⟩⟩
  · rintro _ wx rfl hb
    have := hc.keep hb
    exact ⟨this 0 _ rfl, this 1 _ rfl, this 2 _ rfl⟩
end Go.Proofs.Ythmjmggeihonnaa
