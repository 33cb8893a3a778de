/- The cache: what its memory is, and what its methods do. -/
import Derived.Test.YtgiegkacilfofabDoorCacheMap
import Derived.Test.YtgiegkacilfofabDoorCacheDel
import Derived.Test.YtgiegkacilfofabDoorOrd
import Derived.Carry
namespace Go.Proofs.YtgiegkacilfofabDoor
set_option linter.unusedVariables false
set_option linter.unusedSimpArgs false
open Go.RowKit

structure Ent where
  fn : Int
  body : List InsR
  val : Value

/-- the cache at block c: its room, its row of numbers vo, its map m -/
structure CSt (w : World) (S : Nat → Prop) (c : Nat) (cap : Int) (vo : Value) (m n : Nat) (M : Int → Option Value) (es : List Ent) : Prop where
  hc : S c
  blk : w.heap[c]? = some (.cells #[.int .i64 cap, vo, .map (some m)] 86 (0, 0))
  own : w.ownsRow 0 3 1 vo es.length (ints (es.map Ent.fn))
  neo : ∀ k, vo.ownBlock = some k → S k ∧ k ≠ c ∧ k ≠ m
  hm : S m ∧ m ≠ c
  map : MapIs w m n M
  maps : ∀ k, (Lit.int .i64 k).wf = true → M k = (es.find? (fun e => e.fn == k)).map Ent.val
  ent : ∀ e ∈ es, (Lit.int .i64 e.fn).wf = true ∧ e.body.length ≤ 5864062014634 ∧ w.ownsRow 0 44 3 e.val e.body.length (insCells e.body) ∧ ∀ k, e.val.ownBlock = some k → S k ∧ k ≠ c ∧ k ≠ m ∧ vo.ownBlock ≠ some k
  nodup : (es.map Ent.fn).Nodup
  capok : 1 ≤ cap ∧ cap ≤ 32 ∧ (es.length : Int) ≤ cap

def Ent.told (e : Ent) : Int × List InsR := (e.fn, e.body)
/-- a cache: its room, and what it has, the oldest one first -/
def CacheIs (w : World) (S : Nat → Prop) (c : Nat) (cap : Int) (n : Nat) (l : List (Int × List InsR)) : Prop :=
  ∃ vo m M es, CSt w S c cap vo m n M es ∧ l = es.map Ent.told

theorem CSt.kept {w w' : World} {S T : Nat → Prop} {c : Nat} {cap : Int} {vo : Value} {m n : Nat} {M : Int → Option Value} {es : List Ent} (h : CSt w S c cap vo m n M es) (hc : Chg T w w') (hn : ∀ k, S k → ¬ T k) : CSt w' S c cap vo m n M es :=
  ⟨h.hc, hc.heap h.blk (hn _ h.hc), ownsRow_kept h.own hc (fun k hk => hn _ (h.neo k hk).1), h.neo, h.hm, h.map.kept hc (hn _ h.hm.1), h.maps,
    fun e he => ⟨(h.ent e he).1, (h.ent e he).2.1, ownsRow_kept (h.ent e he).2.2.1 hc (fun k hk => hn _ ((h.ent e he).2.2.2 k hk).1), (h.ent e he).2.2.2⟩, h.nodup, h.capok⟩
theorem CSt.mono {w : World} {S S' : Nat → Prop} {c : Nat} {cap : Int} {vo : Value} {m n : Nat} {M : Int → Option Value} {es : List Ent} (h : CSt w S c cap vo m n M es) (hS : ∀ k, S k → S' k) : CSt w S' c cap vo m n M es :=
  ⟨hS _ h.hc, h.blk, h.own, fun k hk => ⟨hS _ (h.neo k hk).1, (h.neo k hk).2⟩, ⟨hS _ h.hm.1, h.hm.2⟩, h.map, h.maps,
    fun e he => ⟨(h.ent e he).1, (h.ent e he).2.1, (h.ent e he).2.2.1, fun k hk => ⟨hS _ ((h.ent e he).2.2.2 k hk).1, ((h.ent e he).2.2.2 k hk).2⟩⟩, h.nodup, h.capok⟩
theorem CSt.bound {w : World} {S : Nat → Prop} {c : Nat} {cap : Int} {vo : Value} {m n : Nat} {M : Int → Option Value} {es : List Ent} (h : CSt w S c cap vo m n M es) : CSt w (fun k => S k ∧ k < w.heap.size) c cap vo m n M es :=
  ⟨⟨h.hc, lt_of_heap h.blk⟩, h.blk, h.own, fun k hk => ⟨⟨(h.neo k hk).1, ownsRow_lt h.own k hk⟩, (h.neo k hk).2⟩, ⟨⟨h.hm.1, h.map.lt⟩, h.hm.2⟩, h.map, h.maps,
    fun e he => ⟨(h.ent e he).1, (h.ent e he).2.1, (h.ent e he).2.2.1, fun k hk => ⟨⟨((h.ent e he).2.2.2 k hk).1, ownsRow_lt (h.ent e he).2.2.1 k hk⟩, ((h.ent e he).2.2.2 k hk).2⟩⟩, h.nodup, h.capok⟩
theorem CacheIs.kept {w w' : World} {S T : Nat → Prop} {c : Nat} {cap : Int} {n : Nat} {l : List (Int × List InsR)} (h : CacheIs w S c cap n l) (hc : Chg T w w') (hn : ∀ k, S k → ¬ T k) : CacheIs w' S c cap n l := by
  obtain ⟨vo, m, M, es, h, e⟩ := h
  exact ⟨vo, m, M, es, h.kept hc hn, e⟩
theorem CacheIs.mono {w : World} {S S' : Nat → Prop} {c : Nat} {cap : Int} {n : Nat} {l : List (Int × List InsR)} (h : CacheIs w S c cap n l) (hS : ∀ k, S k → S' k) : CacheIs w S' c cap n l := by
  obtain ⟨vo, m, M, es, h, e⟩ := h
  exact ⟨vo, m, M, es, h.mono hS, e⟩
theorem CacheIs.bound {w : World} {S : Nat → Prop} {c : Nat} {cap : Int} {n : Nat} {l : List (Int × List InsR)} (h : CacheIs w S c cap n l) : CacheIs w (fun k => S k ∧ k < w.heap.size) c cap n l := by
  obtain ⟨vo, m, M, es, h, e⟩ := h
  exact ⟨vo, m, M, es, h.bound, e⟩
theorem CacheIs.capok {w : World} {S : Nat → Prop} {c : Nat} {cap : Int} {n : Nat} {l : List (Int × List InsR)} (h : CacheIs w S c cap n l) : 1 ≤ cap ∧ cap ≤ 32 ∧ (l.length : Int) ≤ cap := by
  obtain ⟨vo, m, M, es, h, e⟩ := h
  rw [e, List.length_map]
  exact h.capok
theorem CacheIs.nodup {w : World} {S : Nat → Prop} {c : Nat} {cap : Int} {n : Nat} {l : List (Int × List InsR)} (h : CacheIs w S c cap n l) : (l.map Prod.fst).Nodup := by
  obtain ⟨vo, m, M, es, h, e⟩ := h
  rw [e, List.map_map]
  exact h.nodup

/-! ### New -/
def clampc (q : Int) : Int := if q < 1 then 1 else if 32 < q then 32 else q
set_option maxRecDepth 100000 in
theorem cache_new_any (q : Int) (w : World) :
    Calls Tryd.prog 14 #[.int .i64 q] w fun e w' => ∃ c, e = .returned (.pointer (some ⟨c, 0, none⟩)) ∧ CacheIs w' (fun k => w.heap.size ≤ k) c (clampc q) 0 [] ∧ Chg (fun _ => False) w w' := by
  have key : ∀ cap : Int, 1 ≤ cap → cap ≤ 32 → CacheIs ((w.alloc (.map #[] 0)).alloc (.cells #[.int .i64 cap, .slice none 0 0, .map (some w.heap.size)] 86)) (fun k => w.heap.size ≤ k) (w.heap.size + 1) cap 0 [] ∧ Chg (fun _ => False) w ((w.alloc (.map #[] 0)).alloc (.cells #[.int .i64 cap, .slice none 0 0, .map (some w.heap.size)] 86)) := by
    intro cap h1 h2
    refine ⟨⟨.slice none 0 0, w.heap.size, fun _ => none, [], ⟨Nat.le_succ _, ?_, World.ownsRow_nil _ _ _ _, (fun k hk => by cases hk), ⟨Nat.le_refl _, by omega⟩, ?_, (fun k _ => rfl), (fun e he => by cases he), .nil, h1, h2, by simp; omega⟩, rfl⟩, ((Chg.refl _ _).alloc _).alloc _⟩
    · have := heap_new (w.alloc (.map #[] 0)) (.cells #[.int .i64 cap, .slice none 0 0, .map (some w.heap.size)] 86)
      simpa using this
    · exact (MapIs.made w).kept ((Chg.refl (fun _ => False) _).alloc _) (fun x => x)
  have hmm := run_makeMap (P := Tryd.prog) 84 w
  have hcs : (q < 1 ∧ clampc q = 1) ∨ (¬ q < 1 ∧ 32 < q ∧ clampc q = 32) ∨ (¬ q < 1 ∧ ¬ 32 < q ∧ clampc q = q) := by
    unfold clampc
    by_cases h1 : q < 1
    · exact .inl ⟨h1, if_pos h1⟩
    · by_cases h2 : 32 < q
      · exact .inr (.inl ⟨h1, h2, by rw [if_neg h1, if_pos h2]⟩)
      · exact .inr (.inr ⟨h1, h2, by rw [if_neg h1, if_neg h2]⟩)
  rcases hcs with ⟨h1, e⟩ | ⟨h1, h2, e⟩ | ⟨h1, h2, e⟩
  all_goals
    have hk := key (clampc q) (by omega) (by omega)
    rw [e] at hk ⊢
    have hk := Lib.hid hk
    clear e key
    go_enter Tryd.func14, Tryd.ntmps14
    go_wp2_with fail
    go_ret
    refine ⟨w.heap.size + 1, ?_, ?_⟩
    · simp
    · first | exact hk.out | (have := hk.out; simpa using this)

/-! ### Len, Held, Get -/
set_option maxRecDepth 100000 in
theorem cache_len_any {w : World} {S : Nat → Prop} {c : Nat} {cap : Int} {n : Nat} {l : List (Int × List InsR)} (h : CacheIs w S c cap n l) :
    Calls Tryd.prog 47 #[.pointer (some ⟨c, 0, none⟩)] w fun e w' => e = .returned (.int .i64 l.length) ∧ w' = w := by
  obtain ⟨vo, m, M, es, h, rfl⟩ := h
  have c1 := cell_of_block h.blk 1
  simp at c1
  obtain ⟨h1, A, cp, rfl⟩ := ownsRow_slice h.own
  rw [List.length_map]
  clear h
  generalize es.length = k at *
  unfold maxLen at h1
  go_enter Tryd.func47, Tryd.ntmps47
  go_wp2_with fail
  go_ret
  exact ⟨rfl, rfl⟩

theorem ints_one (l : List Int) : ∀ u ∈ ints l, u.oneCell' = true := fun u hu => by
  obtain ⟨x, _, rfl⟩ := List.mem_map.1 hu
  rfl
/-- what is told of a function -/
def getl (l : List (Int × List InsR)) (fn : Int) : Option (List InsR) := (l.find? (fun e => e.1 == fn)).map Prod.snd
theorem getl_told (es : List Ent) (fn : Int) : getl (es.map Ent.told) fn = (es.find? (fun e => e.fn == fn)).map Ent.body := by
  unfold getl
  rw [List.find?_map, Option.map_map]
  rfl
set_option maxRecDepth 100000 in
theorem cache_get_any {w : World} {S : Nat → Prop} {c : Nat} {cap : Int} {n : Nat} {l : List (Int × List InsR)} (h : CacheIs w S c cap n l) (fn : Int) (hf : (Lit.int .i64 fn).wf = true) :
    Calls Tryd.prog 20 #[.pointer (some ⟨c, 0, none⟩), .int .i64 fn] w fun e w' => ∃ v, e = .returned (.tuple #[v, .bool (getl l fn).isSome]) ∧ w'.ownsRow 0 44 3 v ((getl l fn).getD []).length (insCells ((getl l fn).getD [])) ∧ (∀ k, v.ownBlock = some k → w.heap.size ≤ k) ∧ Chg (fun _ => False) w w' := by
  obtain ⟨vo, m, M, es, h, rfl⟩ := h
  have c2 := cell_of_block h.blk 2
  simp at c2
  have hl := h.map.look fn hf
  rw [h.maps fn hf] at hl
  rw [getl_told]
  have hx : ∃ v body, ((es.find? (fun e => e.fn == fn)).map Ent.val).getD (.slice none 0 0) = v ∧ ((es.find? (fun e => e.fn == fn)).map Ent.body).getD [] = body ∧ w.ownsRow 0 44 3 v body.length (insCells body) ∧ body.length ≤ 5864062014634 ∧ ((es.find? (fun e => e.fn == fn)).map Ent.val).isSome = ((es.find? (fun e => e.fn == fn)).map Ent.body).isSome := by
    cases hf : es.find? (fun e => e.fn == fn) with
    | none => exact ⟨_, _, rfl, rfl, World.ownsRow_nil _ _ _ _, by simp, rfl⟩
    | some e => exact ⟨_, _, rfl, rfl, (h.ent e (List.mem_of_find?_eq_some hf)).2.2.1, (h.ent e (List.mem_of_find?_eq_some hf)).2.1, rfl⟩
  obtain ⟨v, body, e1, e2, e3, e4, e5⟩ := hx
  rw [e1, e5] at hl
  rw [e2]
  generalize ((es.find? (fun e => e.fn == fn)).map Ent.body).isSome = ok at *
  have CC := Lib.hid (cloneIns_any (Src.of_row e3) (insCells_length _) (insCells_one _) e4)
  clear h e1 e2 e3 e4 e5
  go_enter Tryd.func20, Tryd.ntmps20
  go_wp2_with fail
  refine CC.out.mono ?_; rintro e w1 ⟨v', rfl, h1, h2, h3⟩
  go_wp2_with fail
  go_ret2
  exact ⟨v', rfl, h1, h2, h3⟩
end Go.Proofs.YtgiegkacilfofabDoor
