/- The program's cache and the document's, side by side. -/
import Derived.Test.YthmjmggeihonnaaCacheRef2
import Derived.Test.YthmjmggeihonnaaCacheTwo
namespace Go.Proofs.Ythmjmggeihonnaa
set_option linter.unusedVariables false
set_option linter.unusedSimpArgs false
open Go.RowKit Go.Deep

theorem addk (b o j : Nat) : (⟨b, o, none⟩ : Addr).add j = ⟨b, o + j, none⟩ := by unfold Addr.add; split <;> simp_all
theorem ownsRow_some {w : World} {e : TypeId} {size n : Nat} {A : Option Addr} {c : Nat} {xs : List Value} (h : w.ownsRow 0 e size (.slice A n c) n xs) (hn : Value.slice A n c ≠ .slice none 0 0) : ∃ g, A = some ⟨g, 0, none⟩ := by
  rcases h.2 with ⟨e, _⟩ | ⟨g, cap, cur, e, _⟩
  · exact absurd e hn
  · injection e with e1 _ _
    exact ⟨g, e1⟩
theorem told_filter (es : List REnt) (fn : Int) : (es.map REnt.told).filter (fun e => e.1 != fn) = (es.filter (fun e => e.fn != fn)).map REnt.told := by
  rw [List.filter_map]
  rfl
theorem filter_none {l : List (Int × List InsR)} {fn : Int} (h : getl l fn = none) : l.filter (fun e => e.1 != fn) = l := by
  rw [List.filter_eq_self]
  intro a ha
  unfold getl at h
  rw [Option.map_eq_none_iff, List.find?_eq_none] at h
  have := h a ha
  simpa using this
theorem filter_head {a : Int × List InsR} {l : List (Int × List InsR)} (h : ((a :: l).map Prod.fst).Nodup) : (a :: l).filter (fun e => e.1 != a.1) = l := by
  simp only [List.map_cons, List.nodup_cons] at h
  rw [List.filter_cons]
  simp only [bne_self_eq_false, Bool.false_eq_true, if_false]
  rw [List.filter_eq_self]
  intro b hb
  have : b.1 ≠ a.1 := fun e => h.1 (by rw [← e]; exact List.mem_map.2 ⟨b, hb, rfl⟩)
  simpa using this

/-- both tell, and keep, the same -/
theorem put_same {q : Int} {es : List REnt} {fn : Int} {body : List InsR} (hq : 1 ≤ q) (hc : (es.length : Int) ≤ q) (hn : ((es.map REnt.told).map Prod.fst).Nodup) {gone : Int} {ev : Bool} {l' : List (Int × List InsR)} (h : putv q (es.map REnt.told) fn body = (gone, ev, l')) :
    ∃ es', rputv q es fn = (gone, ev, es') ∧ l' = es'.map REnt.told ++ [(fn, body)] := by
  unfold putv at h
  unfold rputv rputw
  by_cases h1 : (getl (es.map REnt.told) fn).isSome = true
  · rw [if_pos h1] at h
    injection h with e1 h
    injection h with e2 h
    have hlt := getl_some_lt h1
    rw [told_filter, List.length_map, List.length_map] at hlt
    refine ⟨_, by rw [if_neg (by omega), e1, e2], ?_⟩
    rw [← h, told_filter]
  · rw [if_neg h1] at h
    have h1' : getl (es.map REnt.told) fn = none := by simpa using h1
    have hf := filter_none h1'
    rw [told_filter] at hf
    have hfe : es.filter (fun e => e.fn != fn) = es := by
      rw [List.filter_eq_self]
      intro a ha
      unfold getl at h1'
      rw [Option.map_eq_none_iff, List.find?_eq_none] at h1'
      have := h1' a.told (List.mem_map.2 ⟨a, ha, rfl⟩)
      simpa [REnt.told] using this
    rw [hfe]
    rw [List.length_map] at h
    by_cases h2 : (es.length : Int) = q
    · rw [if_pos h2] at h
      injection h with e1 h
      injection h with e2 h
      cases es with
      | nil => simp at h2; omega
      | cons a es =>
        refine ⟨es, by rw [if_pos (by omega), ← e1, ← e2]; rfl, ?_⟩
        rw [← h]
        have := filter_head hn
        simp only [List.map_cons] at this ⊢
        rw [show (a.told.1 :: (es.map REnt.told).map Prod.fst).headD 0 = a.told.1 from rfl, this]
    · rw [if_neg h2] at h
      injection h with e1 h
      injection h with e2 h
      exact ⟨es, by rw [if_neg (by omega), e1, e2], h.symm⟩

structure CP (w0 w : World) (X : Nat → Prop) (c r : Nat) (p q : Int) (n : Nat) (l1 l2 : List (Int × List InsR)) : Prop where
  bel : Below w0.heap.size w0 w
  xlt : ∀ k, X k → k < w.heap.size
  sets : ∃ (A B : Nat → Prop) (vL : Value) (es : List REnt), CacheIs w A c q n l1 ∧ RCSt w B r p vL es ∧ l2 = es.map REnt.told ∧ (∀ k, A k → ¬ B k) ∧ (∀ k, A k → w0.heap.size ≤ k ∧ k < w.heap.size ∧ ¬ X k) ∧ (∀ k, B k → w0.heap.size ≤ k ∧ k < w.heap.size ∧ ¬ X k)

section
variable {w0 w : World} {X : Nat → Prop} {c r : Nat} {p q : Int} {n : Nat} {l1 l2 : List (Int × List InsR)}
theorem CP.of_CB (h : CB w0 w (fun _ => False) c q n l1) : CP w0 (w.alloc (.cells #[.int .i64 p, .slice none 0 0] 29)) (fun _ => False) c w.heap.size p q n l1 [] := by
  obtain ⟨hb, ⟨S, hs, h1⟩, hx⟩ := h
  have hc : Chg (fun _ => False) w (w.alloc (.cells #[.int .i64 p, .slice none 0 0] 29)) := (Chg.refl _ _).alloc _
  have hsz : (w.alloc (.cells #[.int .i64 p, .slice none 0 0] 29)).heap.size = w.heap.size + 1 := by simp
  refine ⟨hb.trans (hc.to_below.mono hb.size), fun _ x => x.elim, S, (fun k => k = w.heap.size), .slice none 0 0, [], hs.kept hc (fun _ _ x => x), ⟨rfl, heap_new _ _, World.ownsRow_nil _ _ _ _, (fun k hk => by cases hk), (fun e he => by cases he)⟩, rfl, fun k hk e => by have := (h1 k hk).2.1; omega, fun k hk => ⟨(h1 k hk).1, by have := (h1 k hk).2.1; omega, fun x => x⟩, fun k hk => ⟨by have := hb.size; omega, by omega, fun x => x⟩⟩
theorem CP.keep {w' : World} {Y : Nat → Prop} (h : CP w0 w X c r p q n l1 l2) (hc : Chg (fun k => w0.heap.size ≤ k ∧ X k) w w') (hY : ∀ k, Y k → k < w'.heap.size ∧ (X k ∨ w.heap.size ≤ k)) : CP w0 w' Y c r p q n l1 l2 := by
  obtain ⟨hb, hx, A, B, vL, es, h1, h2, e, h3, h4, h5⟩ := h
  refine ⟨hb.trans (hc.below (fun k hk => hk.1) hb.size), fun k hk => (hY k hk).1, A, B, vL, es, h1.kept hc (fun k hk x => (h4 k hk).2.2 x.2), h2.kept hc (fun k hk x => (h5 k hk).2.2 x.2), e, h3, fun k hk => ⟨(h4 k hk).1, Nat.lt_of_lt_of_le (h4 k hk).2.1 hc.size, fun y => ?_⟩, fun k hk => ⟨(h5 k hk).1, Nat.lt_of_lt_of_le (h5 k hk).2.1 hc.size, fun y => ?_⟩⟩
  · rcases (hY k y).2 with x | x
    · exact (h4 k hk).2.2 x
    · have := (h4 k hk).2.1; omega
  · rcases (hY k y).2 with x | x
    · exact (h5 k hk).2.2 x
    · have := (h5 k hk).2.1; omega
theorem CP.other {w' : World} (h : CP w0 w X c r p q n l1 l2) (hc : Chg (fun _ => False) w w') : CP w0 w' (Old X w w') c r p q n l1 l2 :=
  h.keep (hc.mono (fun _ _ x => x.elim)) (fun k hk => hk.elim (fun x => ⟨Nat.lt_of_lt_of_le (h.xlt k x) hc.size, .inl x⟩) (fun x => ⟨x.2, .inr x.1⟩))
theorem CP.same {w' : World} (h : CP w0 w X c r p q n l1 l2) (hc : Chg (fun k => w0.heap.size ≤ k ∧ X k) w w') : CP w0 w' X c r p q n l1 l2 :=
  h.keep hc (fun k x => ⟨Nat.lt_of_lt_of_le (h.xlt k x) hc.size, .inl x⟩)
theorem CP.drewN (h : CP w0 w X c r p q n l1 l2) (m : Nat) : CP w0 (w.drewN m) X c r p q n l1 l2 := h.same ((Chg.refl _ _).drewN m)
theorem CP.free (h : CP w0 w X c r p q n l1 l2) : CP w0 w (fun _ => False) c r p q n l1 l2 := by
  obtain ⟨hb, hx, A, B, vL, es, h1, h2, e, h3, h4, h5⟩ := h
  exact ⟨hb, fun _ x => x.elim, A, B, vL, es, h1, h2, e, h3, fun k hk => ⟨(h4 k hk).1, (h4 k hk).2.1, fun x => x⟩, fun k hk => ⟨(h5 k hk).1, (h5 k hk).2.1, fun x => x⟩⟩
theorem CP.capok (h : CP w0 w X c r p q n l1 l2) : 1 ≤ q ∧ q ≤ 32 ∧ (l1.length : Int) ≤ q := by obtain ⟨_, _, A, B, vL, es, h1, _⟩ := h; exact h1.capok
theorem CP.nodup (h : CP w0 w X c r p q n l1 l2) : (l1.map Prod.fst).Nodup := by obtain ⟨_, _, A, B, vL, es, h1, _⟩ := h; exact h1.nodup
theorem CP.len (h : CP w0 w X c r p q n l1 l2) (k : Int) (hk : (l1.length : Int) = k) : Calls Try.prog 20 #[.pointer (some ⟨c, 0, none⟩)] w fun e w' => e = .returned (.int .i64 k) ∧ w' = w := by
  obtain ⟨_, _, A, B, vL, es, h1, _⟩ := h
  have := cache_len_any h1
  rwa [hk] at this
theorem CP.held (h : CP w0 w X c r p q n l1 l2) (xs : List Int) (hx : l1.map Prod.fst = xs) (m : Nat) (hm : xs.length = m) :
    Calls Try.prog 18 #[.pointer (some ⟨c, 0, none⟩)] w fun e w' => ∃ A cp, e = .returned (.slice A m cp) ∧ w'.ownsRow 0 3 1 (.slice A m cp) m (ints xs) ∧ (∀ k, (Value.slice A m cp).ownBlock = some k → w.heap.size ≤ k) ∧ CP w0 w' (Old X w w') c r p q n l1 l2 ∧ Chg (fun _ => False) w w' := by
  have h' := h
  obtain ⟨_, _, A, B, vL, es, h1, _⟩ := h
  refine (cache_held_any h1).mono ?_
  rintro e w' ⟨v, rfl, h1, h2, hc⟩
  have hl : l1.length = m := by rw [← hm, ← hx, List.length_map]
  rw [hx, hl] at h1
  obtain ⟨_, A, cp, rfl⟩ := ownsRow_slice h1
  exact ⟨A, cp, rfl, h1, h2, h'.other hc, hc⟩
theorem CP.get (h : CP w0 w X c r p q n l1 l2) (fn : Int) (hf : (Lit.int .i64 fn).wf = true) (b : Bool) (body : List InsR) (hv : (getl l1 fn).isSome = b ∧ (getl l1 fn).getD [] = body) (m : Nat) (hm : body.length = m) :
    Calls Try.prog 16 #[.pointer (some ⟨c, 0, none⟩), .int .i64 fn] w fun e w' => ∃ A cp, e = .returned (.tuple #[.slice A m cp, .bool b]) ∧ w'.ownsRow 0 40 3 (.slice A m cp) m (insCells body) ∧ (∀ k, (Value.slice A m cp).ownBlock = some k → w.heap.size ≤ k) ∧ CP w0 w' (Old X w w') c r p q n l1 l2 ∧ Chg (fun _ => False) w w' := by
  have h' := h
  obtain ⟨_, _, A, B, vL, es, hs, _⟩ := h
  refine (cache_get_any hs fn hf).mono ?_
  rintro e w' ⟨v, rfl, h1, h2, hc⟩
  rw [hv.2, hm] at h1
  rw [hv.1]
  obtain ⟨_, A, cp, rfl⟩ := ownsRow_slice h1
  exact ⟨A, cp, rfl, h1, h2, h'.other hc, hc⟩
theorem CP.rget (h : CP w0 w X c r p q n l1 l2) (fn : Int) (hl : l2.length ≤ 1048576) (b : Bool) (body : List InsR) (hv : (getl l2 fn).isSome = b ∧ (getl l2 fn).getD [] = body) (m : Nat) (hm : body.length = m) :
    Calls Try.prog 17 #[.pointer (some ⟨r, 0, none⟩), .int .i64 fn] w fun e w' => (∃ A cp, e = .returned (.tuple #[.slice A m cp, .bool b]) ∧ Src w (.slice A m cp) m (insCells body)) ∧ w' = w := by
  obtain ⟨_, _, A, B, vL, es, _, hs, rfl, _⟩ := h
  rw [List.length_map] at hl
  refine (rcget_any hs fn hl).mono ?_
  rintro e w' ⟨⟨A, cp, rfl, h1, h2⟩, rfl⟩
  rw [hv.2, hm] at h1
  rw [hv.2, hm, hv.1]
  exact ⟨⟨A, cp, rfl, h1⟩, rfl⟩
theorem CP.drop (h : CP w0 w X c r p q n l1 l2) (fn : Int) (hf : (Lit.int .i64 fn).wf = true) (b : Bool) (l' : List (Int × List InsR)) (hv : (getl l1 fn).isSome = b ∧ l1.filter (fun e => e.1 != fn) = l') :
    Calls Try.prog 14 #[.pointer (some ⟨c, 0, none⟩), .int .i64 fn] w fun e w' => e = .returned (.bool b) ∧ CP w0 w' X c r p q n l' l2 ∧ Chg (fun k => w0.heap.size ≤ k ∧ ¬ X k) w w' := by
  obtain ⟨hb, hx, A, B, vL, es, h1, h2, e, h3, h4, h5⟩ := h
  have := cache_drop_any h1 fn hf
  rw [hv.1, hv.2] at this
  refine this.mono ?_
  rintro e' w' ⟨rfl, h6, hc⟩
  exact ⟨rfl, ⟨hb.trans (hc.below (fun k hk => (h4 k hk).1) hb.size), fun k hk => Nat.lt_of_lt_of_le (hx k hk) hc.size, A, B, vL, es, h6, h2.kept hc (fun k a b => h3 k b a), e, h3, fun k hk => ⟨(h4 k hk).1, Nat.lt_of_lt_of_le (h4 k hk).2.1 hc.size, (h4 k hk).2.2⟩, fun k hk => ⟨(h5 k hk).1, Nat.lt_of_lt_of_le (h5 k hk).2.1 hc.size, (h5 k hk).2.2⟩⟩, hc.mono (fun k _ hk => ⟨(h4 k hk).1, (h4 k hk).2.2⟩)⟩
theorem CP.rdrop (h : CP w0 w X c r p q n l1 l2) (fn : Int) (hl : l2.length ≤ 1048576) (b : Bool) (l' : List (Int × List InsR)) (hv : (getl l2 fn).isSome = b ∧ l2.filter (fun e => e.1 != fn) = l') :
    Calls Try.prog 15 #[.pointer (some ⟨r, 0, none⟩), .int .i64 fn] w fun e w' => e = .returned (.bool b) ∧ CP w0 w' X c r p q n l1 l' ∧ Chg (fun k => w0.heap.size ≤ k ∧ ¬ X k) w w' := by
  obtain ⟨hb, hx, A, B, vL, es, h1, h2, rfl, h3, h4, h5⟩ := h
  rw [List.length_map] at hl
  have hbb : decide ((es.filter (fun e => e.fn != fn)).length < es.length) = b := by
    rw [← hv.1]
    cases hg : (getl (es.map REnt.told) fn).isSome with
    | true =>
      have := getl_some_lt hg
      rw [told_filter, List.length_map, List.length_map] at this
      exact decide_eq_true this
    | false =>
      have := filter_none (show getl (es.map REnt.told) fn = none by simpa using hg)
      rw [told_filter] at this
      have := congrArg List.length this
      rw [List.length_map, List.length_map] at this
      exact decide_eq_false (by omega)
  refine (rcdrop_any h2 fn hl).mono ?_
  rintro e' w' ⟨rfl, vL', h6, hc⟩
  refine ⟨by rw [hbb], ⟨hb.trans (hc.below (fun k hk => (h5 k hk).1) hb.size), fun k hk => Nat.lt_of_lt_of_le (hx k hk) hc.size, A, _, vL', _, h1.kept hc h3, h6.bound, by rw [← hv.2, told_filter], fun k hk hn => ?_, fun k hk => ⟨(h4 k hk).1, Nat.lt_of_lt_of_le (h4 k hk).2.1 hc.size, (h4 k hk).2.2⟩, fun k hk => ⟨?_, hk.2, fun x => ?_⟩⟩, hc.mono (fun k _ hk => ⟨(h5 k hk).1, (h5 k hk).2.2⟩)⟩
  · rcases hn.1 with hn | hn
    · exact h3 k hk hn
    · have := (h4 k hk).2.1; omega
  · rcases hk.1 with hk | hk
    · exact (h5 k hk).1
    · exact Nat.le_trans hb.size hk
  · rcases hk.1 with hk | hk
    · exact (h5 k hk).2.2 x
    · have := hx k x; omega
theorem CP.put (h : CP w0 w X c r p q n l1 l2) (fn : Int) (hf : (Lit.int .i64 fn).wf = true) (bv : Value) (body : List InsR) (ht : Src w bv body.length (insCells body)) (ho : ∀ k, bv.ownBlock = some k → X k) (hbl : body.length ≤ 5864062014634) (hn : n ≤ 1048576) (gone : Int) (ev : Bool) (l' : List (Int × List InsR)) (hv : putv q l1 fn body = (gone, ev, l')) :
    Calls Try.prog 13 #[.pointer (some ⟨c, 0, none⟩), .int .i64 fn, bv] w fun e w' => e = .returned (.tuple #[.int .i64 gone, .bool ev]) ∧ CP w0 w' X c r p q (n + 1) l' l2 ∧ Chg (fun k => w0.heap.size ≤ k ∧ ¬ X k) w w' := by
  obtain ⟨hb, hx, A, B, vL, es, h1, h2, e, h3, h4, h5⟩ := h
  have := cache_put_any h1 fn hf bv body ht (.inr fun k hk a => (h4 k a).2.2 (ho k hk)) hbl hn
  rw [hv] at this
  refine this.mono ?_
  rintro e' w' ⟨rfl, h6, hc⟩
  refine ⟨rfl, ⟨hb.trans (hc.below (fun k hk => (h4 k hk).1) hb.size), fun k hk => Nat.lt_of_lt_of_le (hx k hk) hc.size, _, B, vL, es, h6.bound, h2.kept hc (fun k a b => h3 k b a), e, fun k hk hn => ?_, fun k hk => ⟨?_, hk.2, fun x => ?_⟩, fun k hk => ⟨(h5 k hk).1, Nat.lt_of_lt_of_le (h5 k hk).2.1 hc.size, (h5 k hk).2.2⟩⟩, hc.mono (fun k _ hk => ⟨(h4 k hk).1, (h4 k hk).2.2⟩)⟩
  · rcases hk.1 with hk | hk
    · exact h3 k hk hn
    · have := (h5 k hn).2.1; omega
  · rcases hk.1 with hk | hk
    · exact (h4 k hk).1
    · exact Nat.le_trans hb.size hk
  · rcases hk.1 with hk | hk
    · exact (h4 k hk).2.2 x
    · have := hx k x; omega
theorem CP.rput (h : CP w0 w X c r p q n l1 l2) (fn : Int) (hl : (l2.length : Int) ≤ q) (hnd : (l2.map Prod.fst).Nodup) (m1 : Int) (hm1 : (if p < 1 then 1 else p) = m1) (hm2 : (if 32 < m1 then 32 else m1) = q) (bv : Value) (body : List InsR) (hb20 : body.length ≤ 20) (ht : Src w bv body.length (insCells body)) (hsome : ∃ ad c, bv = .slice (some ad) body.length c) (ho : ∀ k, bv.ownBlock = some k → X k) (gone : Int) (ev : Bool) (l' : List (Int × List InsR)) (hv : putv q l2 fn body = (gone, ev, l')) :
    Calls Try.prog 11 #[.pointer (some ⟨r, 0, none⟩), .int .i64 fn, bv] w fun e w' => e = .returned (.tuple #[.int .i64 gone, .bool ev]) ∧ CP w0 w' X c r p q n l1 l' ∧ Chg (fun k => w0.heap.size ≤ k ∧ ¬ X k) w w' := by
  have hcap := h.capok
  obtain ⟨hb, hx, A, B, vL, es, h1, h2, rfl, h3, h4, h5⟩ := h
  rw [List.length_map] at hl
  obtain ⟨es', hp, rfl⟩ := put_same (by omega) hl hnd hv
  refine (rcput_any h2 fn (by omega) m1 q hm1 hm2 (by omega) bv body hb20 ht hsome (fun k hk b => (h5 k b).2.2 (ho k hk)) gone ev es' hp).mono ?_
  rintro e' w' ⟨rfl, vL', v, h6, hc⟩
  refine ⟨rfl, ⟨hb.trans (hc.below (fun k hk => (h5 k hk).1) hb.size), fun k hk => Nat.lt_of_lt_of_le (hx k hk) hc.size, A, _, vL', _, h1.kept hc h3, h6.bound, by simp [REnt.told], fun k hk hn => ?_, fun k hk => ⟨(h4 k hk).1, Nat.lt_of_lt_of_le (h4 k hk).2.1 hc.size, (h4 k hk).2.2⟩, fun k hk => ⟨?_, hk.2, fun x => ?_⟩⟩, hc.mono (fun k _ hk => ⟨(h5 k hk).1, (h5 k hk).2.2⟩)⟩
  · rcases hn.1 with hn | hn
    · exact h3 k hk hn
    · have := (h4 k hk).2.1; omega
  · rcases hk.1 with hk | hk
    · exact (h5 k hk).1
    · exact Nat.le_trans hb.size hk
  · rcases hk.1 with hk | hk
    · exact (h5 k hk).2.2 x
    · have := hx k x; omega
/-- what is read of the document's cache -/
theorem CP.facts (h : CP w0 w X c r p q n l1 l2) (m : Nat) (hm : l2.length = m) : ∃ A cp, w.cell? ⟨r, 1, none⟩ = some (.slice A m cp) := by
  obtain ⟨_, _, A, B, vL, es, _, h2, rfl, _⟩ := h
  rw [List.length_map] at hm
  have c1 := cell_of_block h2.blk 1
  simp at c1
  obtain ⟨_, A', cp, rfl⟩ := ownsRow_slice h2.own
  rw [hm] at c1
  exact ⟨A', cp, c1⟩
theorem CP.entry (h : CP w0 w X c r p q n l1 l2) (m : Nat) (hm : l2.length = m) (j : Nat) (hj : j < m) : ∃ g cp, w.cell? ⟨r, 1, none⟩ = some (.slice (some ⟨g, 0, none⟩) m cp) ∧ m ≤ cp ∧ cp ≤ 9223372036854775807 ∧ ∀ x, (l2.map Prod.fst)[j]? = some x → w.cell? ⟨g, j * 2, none⟩ = some (.int .i64 x) := by
  obtain ⟨_, _, A, B, vL, es, _, h2, rfl, _⟩ := h
  rw [List.length_map] at hm
  have c1 := cell_of_block h2.blk 1
  simp at c1
  obtain ⟨_, A', cp, rfl⟩ := ownsRow_slice h2.own
  rw [hm] at c1
  have h2' := h2
  rw [hm] at h2'
  obtain ⟨g, rfl, hc1, hc2, hat⟩ := h2'.at hm.symm (by omega)
  refine ⟨g, cp, c1, hc1, hc2, fun x hx => ?_⟩
  have := (hat w (Chg.refl _ _) j (by omega)).1
  rw [List.map_map, List.getElem?_map, List.getElem?_eq_getElem (by omega)] at hx
  injection hx with hx
  rw [this]
  simp only [Function.comp, REnt.told] at hx
  rw [hx]
end
end Go.Proofs.Ythmjmggeihonnaa
