/- One cache of a call that began in w0, beside blocks X that are not its own; and 'shown'. -/
import Derived.Test.YthmjmggeihonnaaCachePut
namespace Go.Proofs.Ythmjmggeihonnaa
set_option linter.unusedVariables false
set_option linter.unusedSimpArgs false
open Go.RowKit

structure CB (w0 w : World) (X : Nat → Prop) (c : Nat) (cap : Int) (n : Nat) (l : List (Int × List InsR)) : Prop where
  bel : Below w0.heap.size w0 w
  st : ∃ S : Nat → Prop, CacheIs w S c cap n l ∧ (∀ k, S k → w0.heap.size ≤ k ∧ k < w.heap.size ∧ ¬ X k)
  xlt : ∀ k, X k → k < w.heap.size

/-- a row that is not the cache's -/
structure Tmp (w0 w : World) (X : Nat → Prop) (v : Value) (n : Nat) (cs : List Value) : Prop where
  src : Src w v n cs
  own : (n = 0 ∧ cs = []) ∨ ∀ k, v.ownBlock = some k → k < w0.heap.size ∨ X k

theorem Tmp.kept {w0 w w' : World} {X Y : Nat → Prop} {v : Value} {n : Nat} {cs : List Value} (h : Tmp w0 w X v n cs) (hc : Chg (fun k => w0.heap.size ≤ k ∧ ¬ X k) w w') (hX : ∀ k, X k → Y k) : Tmp w0 w' Y v n cs :=
  ⟨h.src.kept hc (h.own.imp id (fun ho k hk e => (ho k hk).elim (fun x => by omega) e.2)), h.own.imp id (fun ho k hk => (ho k hk).imp id (hX k))⟩

section
variable {w0 w : World} {X : Nat → Prop} {c : Nat} {cap : Int} {n : Nat} {l : List (Int × List InsR)}

/-- blocks that are new are none of the cache's -/
def Old (X : Nat → Prop) (w w' : World) (k : Nat) : Prop := X k ∨ (w.heap.size ≤ k ∧ k < w'.heap.size)
theorem CB.other {w' : World} (h : CB w0 w X c cap n l) (hc : Chg (fun _ => False) w w') : CB w0 w' (Old X w w') c cap n l := by
  obtain ⟨hb, ⟨S, hs, h1⟩, hx⟩ := h
  refine ⟨hb.trans (hc.to_below.mono hb.size), ⟨S, hs.kept hc (fun _ _ x => x), fun k hk => ⟨(h1 k hk).1, Nat.lt_of_lt_of_le (h1 k hk).2.1 hc.size, fun hX => hX.elim (h1 k hk).2.2 (fun e => by have := (h1 k hk).2.1; omega)⟩⟩, fun k hk => hk.elim (fun h => Nat.lt_of_lt_of_le (hx k h) hc.size) (fun h => h.2)⟩
theorem CB.same {w' : World} (h : CB w0 w X c cap n l) (hc : Chg (fun _ => False) w w') : CB w0 w' X c cap n l := by
  obtain ⟨hb, ⟨S, hs, h1⟩, hx⟩ := h
  exact ⟨hb.trans (hc.to_below.mono hb.size), ⟨S, hs.kept hc (fun _ _ x => x), fun k hk => ⟨(h1 k hk).1, Nat.lt_of_lt_of_le (h1 k hk).2.1 hc.size, (h1 k hk).2.2⟩⟩, fun k hk => Nat.lt_of_lt_of_le (hx k hk) hc.size⟩
theorem CB.drewN (h : CB w0 w X c cap n l) (m : Nat) : CB w0 (w.drewN m) X c cap n l := h.same ((Chg.refl _ _).drewN m)
theorem CB.free (h : CB w0 w X c cap n l) : CB w0 w (fun _ => False) c cap n l := by
  obtain ⟨hb, ⟨S, hs, h1⟩, hx⟩ := h
  exact ⟨hb, ⟨S, hs, fun k hk => ⟨(h1 k hk).1, (h1 k hk).2.1, fun x => x⟩⟩, fun _ x => x.elim⟩
theorem CB.capok (h : CB w0 w X c cap n l) : 1 ≤ cap ∧ cap ≤ 32 ∧ (l.length : Int) ≤ cap := by obtain ⟨_, ⟨S, hs, _⟩, _⟩ := h; exact hs.capok
theorem CB.nodup (h : CB w0 w X c cap n l) : (l.map Prod.fst).Nodup := by obtain ⟨_, ⟨S, hs, _⟩, _⟩ := h; exact hs.nodup
theorem CB.wf (h : CB w0 w X c cap n l) : ∀ e ∈ l, (Lit.int .i64 e.1).wf = true := by
  obtain ⟨_, ⟨S, hs, _⟩, _⟩ := h
  obtain ⟨vo, m, M, es, h, rfl⟩ := hs
  intro e he
  obtain ⟨y, hy, rfl⟩ := List.mem_map.1 he
  exact (h.ent y hy).1

theorem CB.new {w0 w : World} (hb : Below w0.heap.size w0 w) (q cap : Int) (hq : clampc q = cap) :
    Calls Try.prog 10 #[.int .i64 q] w fun e w' => ∃ c, e = .returned (.pointer (some ⟨c, 0, none⟩)) ∧ CB w0 w' (fun _ => False) c cap 0 [] := by
  refine (cache_new_any q w).mono ?_
  rintro e w' ⟨c, rfl, h, hc⟩
  rw [hq] at h
  exact ⟨c, rfl, hb.trans (hc.to_below.mono hb.size), ⟨_, h.bound, fun k hk => ⟨Nat.le_trans hb.size hk.1, hk.2, fun x => x⟩⟩, fun _ x => x.elim⟩
theorem CB.len (h : CB w0 w X c cap n l) (k : Int) (hk : (l.length : Int) = k) : Calls Try.prog 20 #[.pointer (some ⟨c, 0, none⟩)] w fun e w' => e = .returned (.int .i64 k) ∧ w' = w := by
  obtain ⟨_, ⟨S, hs, _⟩, _⟩ := h
  have := cache_len_any hs
  rwa [hk] at this
theorem CB.held (h : CB w0 w X c cap n l) (xs : List Int) (hx : l.map Prod.fst = xs) :
    Calls Try.prog 18 #[.pointer (some ⟨c, 0, none⟩)] w fun e w' => ∃ A cp, e = .returned (.slice A xs.length cp) ∧ w'.ownsRow 0 3 1 (.slice A xs.length cp) xs.length (ints xs) ∧ Tmp w0 w' (Old X w w') (.slice A xs.length cp) xs.length (ints xs) ∧ CB w0 w' (Old X w w') c cap n l ∧ Chg (fun _ => False) w w' := by
  have h' := h
  obtain ⟨_, ⟨S, hs, _⟩, _⟩ := h
  refine (cache_held_any hs).mono ?_
  rintro e w' ⟨v, rfl, h1, h2, hc⟩
  have hl : l.length = xs.length := by rw [← hx, List.length_map]
  rw [hx, hl] at h1
  obtain ⟨_, A, cp, rfl⟩ := ownsRow_slice h1
  exact ⟨A, cp, rfl, h1, ⟨Src.of_row h1, .inr fun k hk => .inr (.inr ⟨h2 k hk, ownsRow_lt h1 k hk⟩)⟩, h'.other hc, hc⟩
theorem CB.get (h : CB w0 w X c cap n l) (fn : Int) (hf : (Lit.int .i64 fn).wf = true) (b : Bool) (body : List InsR) (hv : (getl l fn).isSome = b ∧ (getl l fn).getD [] = body) :
    Calls Try.prog 16 #[.pointer (some ⟨c, 0, none⟩), .int .i64 fn] w fun e w' => ∃ A cp, e = .returned (.tuple #[.slice A body.length cp, .bool b]) ∧ w'.ownsRow 0 40 3 (.slice A body.length cp) body.length (insCells body) ∧ Tmp w0 w' (Old X w w') (.slice A body.length cp) body.length (insCells body) ∧ CB w0 w' (Old X w w') c cap n l ∧ Chg (fun _ => False) w w' := by
  have h' := h
  obtain ⟨_, ⟨S, hs, _⟩, _⟩ := h
  refine (cache_get_any hs fn hf).mono ?_
  rintro e w' ⟨v, rfl, h1, h2, hc⟩
  rw [hv.2] at h1
  rw [hv.1]
  obtain ⟨_, A, cp, rfl⟩ := ownsRow_slice h1
  exact ⟨A, cp, rfl, h1, ⟨Src.of_row h1, .inr fun k hk => .inr (.inr ⟨h2 k hk, ownsRow_lt h1 k hk⟩)⟩, h'.other hc, hc⟩
theorem CB.drop (h : CB w0 w X c cap n l) (fn : Int) (hf : (Lit.int .i64 fn).wf = true) (b : Bool) (l' : List (Int × List InsR)) (hv : (getl l fn).isSome = b ∧ l.filter (fun e => e.1 != fn) = l') :
    Calls Try.prog 14 #[.pointer (some ⟨c, 0, none⟩), .int .i64 fn] w fun e w' => e = .returned (.bool b) ∧ CB w0 w' X c cap n l' ∧ Chg (fun k => w0.heap.size ≤ k ∧ ¬ X k) w w' := by
  obtain ⟨hb, ⟨S, hs, h1⟩, hx⟩ := h
  have := cache_drop_any hs fn hf
  rw [hv.1, hv.2] at this
  refine this.mono ?_
  rintro e w' ⟨rfl, h2, hc⟩
  exact ⟨rfl, ⟨hb.trans (hc.below (fun k hk => (h1 k hk).1) hb.size), ⟨S, h2, fun k hk => ⟨(h1 k hk).1, Nat.lt_of_lt_of_le (h1 k hk).2.1 hc.size, (h1 k hk).2.2⟩⟩, fun k hk => Nat.lt_of_lt_of_le (hx k hk) hc.size⟩, hc.mono (fun k _ hk => ⟨(h1 k hk).1, (h1 k hk).2.2⟩)⟩
theorem CB.put (h : CB w0 w X c cap n l) (fn : Int) (hf : (Lit.int .i64 fn).wf = true) (bv : Value) (body : List InsR) (ht : Tmp w0 w X bv body.length (insCells body)) (hbl : body.length ≤ 5864062014634) (hn : n ≤ 1048576) (gone : Int) (ev : Bool) (l' : List (Int × List InsR)) (hv : putv cap l fn body = (gone, ev, l')) :
    Calls Try.prog 13 #[.pointer (some ⟨c, 0, none⟩), .int .i64 fn, bv] w fun e w' => e = .returned (.tuple #[.int .i64 gone, .bool ev]) ∧ CB w0 w' X c cap (n + 1) l' ∧ Chg (fun k => w0.heap.size ≤ k ∧ ¬ X k) w w' := by
  obtain ⟨hb, ⟨S, hs, h1⟩, hx⟩ := h
  have := cache_put_any hs fn hf bv body ht.src (ht.own.imp id (fun ho k hk e => (ho k hk).elim (fun x => by have := (h1 k e).1; omega) (h1 k e).2.2)) hbl hn
  rw [hv] at this
  refine this.mono ?_
  rintro e w' ⟨rfl, h2, hc⟩
  refine ⟨rfl, ⟨hb.trans (hc.below (fun k hk => (h1 k hk).1) hb.size), ⟨_, h2.bound, fun k hk => ⟨?_, hk.2, ?_⟩⟩, fun k hk => Nat.lt_of_lt_of_le (hx k hk) hc.size⟩, hc.mono (fun k _ hk => ⟨(h1 k hk).1, (h1 k hk).2.2⟩)⟩
  · rcases hk.1 with hk | hk
    · exact (h1 k hk).1
    · exact Nat.le_trans hb.size hk
  · intro hX
    rcases hk.1 with hk | hk
    · exact (h1 k hk).2.2 hX
    · have := hx k hX; omega
theorem CB.one (h : CB w0 w X c cap n l) (k : Int) :
    Calls Try.prog 21 #[.int .i64 k] w fun e w' => ∃ g cp, e = .returned (.slice (some ⟨g, 0, none⟩) 2 cp) ∧ Tmp w0 w' (Old X w w') (.slice (some ⟨g, 0, none⟩) 2 cp) (oneR k).length (insCells (oneR k)) ∧ CB w0 w' (Old X w w') c cap n l ∧ Chg (fun _ => False) w w' := by
  refine (one_any k w).mono ?_
  rintro e w' ⟨v, rfl, h1, h2, h3, hc⟩
  have h2 : ∀ k, v.ownBlock = some k → w.heap.size ≤ k ∧ k < w'.heap.size := fun k hk => ⟨by rw [h2 k hk]; exact Nat.le_refl _, ownsRow_lt h1 k hk⟩
  obtain ⟨g, cp, rfl, _, _⟩ := h1.form (by omega)
  exact ⟨g, cp, rfl, ⟨Src.of_row h1, .inr fun k hk => .inr (.inr (h2 k hk))⟩, h.other hc, hc⟩
theorem CB.alike {a b : Value} {xs ys : List InsR} {k1 k2 : Nat} (h : CB w0 w X c cap n l) (ha : Tmp w0 w X a k1 (insCells xs)) (hb : Tmp w0 w X b k2 (insCells ys)) (h1 : k1 = xs.length) (h2 : k2 = ys.length) (r : Bool) (hr : decide (xs = ys) = r) :
    Calls Try.prog 22 #[a, b] w fun e w' => e = .returned (.bool r) ∧ ∃ m, w' = w.drewN m := by
  subst h1 h2
  have := alike_any ha.src hb.src
  rwa [hr] at this
end

theorem Tmp.keptO {w0 w w' : World} {X : Nat → Prop} {v : Value} {n : Nat} {cs : List Value} (h : Tmp w0 w X v n cs) (hc : Chg (fun _ => False) w w') : Tmp w0 w' (Old X w w') v n cs := h.kept (hc.mono (fun _ _ x => x.elim)) (fun _ => .inl)
theorem Tmp.keptC {w0 w w' : World} {X : Nat → Prop} {v : Value} {n : Nat} {cs : List Value} (h : Tmp w0 w X v n cs) (hc : Chg (fun k => w0.heap.size ≤ k ∧ ¬ X k) w w') : Tmp w0 w' X v n cs := h.kept hc (fun _ x => x)
theorem Tmp.drewN {w0 w : World} {X : Nat → Prop} {v : Value} {n : Nat} {cs : List Value} (h : Tmp w0 w X v n cs) (m : Nat) : Tmp w0 (w.drewN m) X v n cs := h.keptC ((Chg.refl _ _).drewN m)
theorem old_imp {X : Nat → Prop} {w w' : World} : ∀ k, X k → Old X w w' k := fun _ h => .inl h
theorem Chg.anyOf {S : Nat → Prop} {w w' : World} (h : Chg (fun _ => False) w w') : Chg S w w' := h.mono (fun _ _ x => x.elim)

set_option maxHeartbeats 8000000 in
set_option maxRecDepth 100000 in
theorem shown_any (w : World) : Calls Try.prog 9 #[] w fun e w' => e = .returned (.bool true) ∧ Below w.heap.size w w' := by
  suffices hs : ∀ w0, Below w0.heap.size w0 w → Calls Try.prog 9 #[] w fun e w' => e = .returned (.bool true) ∧ Below w0.heap.size w0 w' from hs w (Below.refl _ _)
  intro w0 hb0
  have HB0 := Lib.hid hb0
  clear hb0
  go_enter Try.func9, Try.ntmps9
  go_wp2_with fail
  refine (CB.new HB0.out 2 2 (by decide)).mono ?_; rintro e w1 ⟨c, rfl, h⟩
  go_wp2_with fail
  refine (h.one 1).mono ?_; rintro e w2 ⟨g1, cp1, rfl, t, h, _⟩
  go_wp2_with fail
  refine (h.put 1 (by decide) _ (oneR 1) t (by decide) (by decide) 0 false [(1, oneR 1)] (by decide)).mono ?_; rintro e w3 ⟨rfl, h, _⟩
  go_wp2_with fail
  refine (h.one 2).mono ?_; rintro e w4 ⟨g2, cp2, rfl, t, h, _⟩
  go_wp2_with fail
  refine (h.put 2 (by decide) _ (oneR 2) t (by decide) (by decide) 0 false [(1, oneR 1), (2, oneR 2)] (by decide)).mono ?_; rintro e w5 ⟨rfl, h, _⟩
  go_wp2_with fail
  refine (h.one 3).mono ?_; rintro e w6 ⟨g3, cp3, rfl, t, h, _⟩
  go_wp2_with fail
  refine (h.put 1 (by decide) _ (oneR 3) t (by decide) (by decide) 0 false [(2, oneR 2), (1, oneR 3)] (by decide)).mono ?_; rintro e w7 ⟨rfl, h, _⟩
  go_wp2_with fail
  refine (h.one 4).mono ?_; rintro e w8 ⟨g4, cp4, rfl, t, h, _⟩
  go_wp2_with fail
  refine (h.put 3 (by decide) _ (oneR 4) t (by decide) (by decide) 2 true [(1, oneR 3), (3, oneR 4)] (by decide)).mono ?_; rintro e w9 ⟨rfl, h, _⟩
  clear t
  go_wp2_with fail
  refine (h.get 1 (by decide) true (oneR 3) (by decide)).mono ?_; rintro e w10 ⟨A1, q1, rfl, _, tx, h, _⟩
  go_wp2_with fail
  refine (h.get 2 (by decide) false [] (by decide)).mono ?_; rintro e w11 ⟨A2, q2, rfl, _, _, h, hc⟩
  replace tx := tx.keptO hc
  go_wp2_with fail
  refine (h.held [1, 3] (by decide)).mono ?_; rintro e w12 ⟨A3, q3, rfl, _, tl, h, hc⟩
  replace tx := tx.keptO hc
  go_wp2_with fail
  refine (h.drop 1 (by decide) true [(3, oneR 4)] (by decide)).mono ?_; rintro e w13 ⟨rfl, h, hc⟩
  replace tx := tx.keptC hc
  replace tl := tl.keptC hc
  go_wp2_with fail
  refine (h.drop 1 (by decide) false [(3, oneR 4)] (by decide)).mono ?_; rintro e w14 ⟨rfl, h, hc⟩
  replace tx := tx.keptC hc
  replace tl := tl.keptC hc
  go_wp2_with fail
  refine (h.one 3).mono ?_; rintro e w15 ⟨g5, cp5, rfl, t5, h, hc⟩
  replace tx := tx.keptO hc
  replace tl := tl.keptO hc
  go_wp2_with fail
  refine (h.alike tx t5 rfl rfl true (by decide)).mono ?_; rintro e w16 ⟨rfl, m1, rfl⟩
  replace h := h.drewN m1
  replace tl := tl.drewN m1
  generalize w15.drewN m1 = w17 at *
  go_wp2_with fail
  have hlit : Src (w17.alloc (.cells #[.int .i64 1, .int .i64 3] 3)) (.slice (some ⟨w17.heap.size, 0, none⟩) 2 2) ([1, 3] : List Int).length (([1, 3] : List Int).map (Value.int .i64)) :=
    Src.of_row (e := 3) (size := 1) ⟨rfl, .inr ⟨w17.heap.size, 2, _, rfl, Nat.zero_le _, heap_new _ _, Nat.le_refl _, by simp [maxLen], rfl, rfl⟩⟩
  have hca : Chg (fun _ => False) w17 (w17.alloc (.cells #[.int .i64 1, .int .i64 3] 3)) := (Chg.refl _ _).alloc _
  have hsm := same_any (xs := [1, 3]) (ys := [1, 3]) (tl.keptO hca).src hlit
  rw [decide_eq_true rfl] at hsm
  replace h := h.other hca
  clear hlit hca tl tx t5 t
  refine hsm.mono ?_; rintro e w18 ⟨rfl, m2, rfl⟩
  clear hsm
  replace h := h.drewN m2
  generalize (w17.alloc (.cells #[.int .i64 1, .int .i64 3] 3)).drewN m2 = w19 at *
  go_wp2_with fail
  refine (h.len 1 (by decide)).mono ?_; rintro e w20 ⟨rfl, rfl⟩
  go_wp2_with fail
  go_ret
  exact ⟨rfl, h.bel⟩
end Go.Proofs.Ythmjmggeihonnaa
