/- The texts TPairN, TKeepV, TEvV in one. -/
import Derived.Test.YtgiegkacilfofabDoorTG2
import Derived.Test.YtgiegkacilfofabDoorTierSh
namespace Go.Proofs.YtgiegkacilfofabDoor
set_option linter.unusedVariables false
set_option linter.unusedSimpArgs false
open Go.RowKit Go.Conc

/-- the public parameters of pair, and a row of picks, laid behind it -/
structure PairMem (w1 w4 : World) (Q : Nat) (picks : List Int) : Prop where
  e1 : w4.heap[Q]? = some (.cells #[.bool true] 4 (0, 0))
  e2 : w4.heap[Q + 1]? = some (.cells #[.slice none 0 0, .slice (some ⟨Q, 0, none⟩) 1 1] 30 (0, 0))
  e3 : w4.heap[Q + 1 + 1]? = some (.cells (nums picks).toArray 2 (0, 0))
  q : Q = w1.heap.size
  size : w4.heap.size = Q + 1 + 1 + 1
  chg : Chg (fun _ => False) w1 w4
theorem pair_mem {w1 w2 w3 w4 : World} {Q : Nat} {picks : List Int} (hQ : Q = w1.heap.size) (h2 : w2 = w1.alloc (.cells #[.bool true] 4)) (h3 : w3 = w2.alloc (.cells #[.slice none 0 0, .slice (some ⟨Q, 0, none⟩) 1 1] 30)) (h4 : w4 = w3.alloc (.cells (nums picks).toArray 2)) : PairMem w1 w4 Q picks := by
  have s2 : w2.heap.size = Q + 1 := by rw [h2, hQ]; simp
  have s3 : w3.heap.size = Q + 1 + 1 := by rw [h3]; simp [s2]
  have s4 : w4.heap.size = Q + 1 + 1 + 1 := by rw [h4]; simp [s3]
  have c2 : Chg (fun _ => False) w1 w2 := by rw [h2]; exact (Chg.refl _ _).alloc _
  have c3 : Chg (fun _ => False) w2 w3 := by rw [h3]; exact (Chg.refl _ _).alloc _
  have c4 : Chg (fun _ => False) w3 w4 := by rw [h4]; exact (Chg.refl _ _).alloc _
  exact ⟨(c3.then c4).heap (by rw [h2]; exact heap_new' hQ.symm) (fun x => x), c4.heap (by rw [h3]; exact heap_new' s2) (fun x => x), by rw [h4]; exact heap_new' s3, hQ, s4, (c2.then c3).then c4⟩
theorem num_block {w : World} {G : Nat} {l : List Int} (h : w.heap[G]? = some (.cells (nums l).toArray 2 (0, 0))) {n : Nat} (hn : n = l.length) (hm : n ≤ maxLen) : NumSrc w (.slice (some ⟨G, 0, none⟩) n n) l := by
  subst hn
  refine ⟨_, l.length, rfl, Nat.le_refl _, hm, fun _ => ⟨G, 0, rfl, fun j x hj => ?_⟩⟩
  rw [Nat.zero_add, cell_of_block h]
  have hj2 := (List.getElem?_eq_some_iff.1 hj)
  obtain ⟨hlt, rfl⟩ := hj2
  have := nums_get l j hlt
  simpa using this
theorem pairNew_any {w1 w4 : World} {Q b3 : Nat} {picks : List Int} (hF : FnsIs w1 (.slice (some ⟨b3, 0, none⟩) 2 2) [pairM, pairF]) (hp : PairMem w1 w4 Q picks) (q : Int) (hk : ∀ z ∈ picks, In64 z) {n : Nat} (hn : n = picks.length) (hn2 : n ≤ 1000) :
    Calls Tryd.prog 7 #[.agg #[.slice (some ⟨b3, 0, none⟩) 2 2], .slice (some ⟨Q + 1, 0, none⟩) 2 2, .int .i64 q, .slice (some ⟨Q + 1 + 1, 0, none⟩) n n] w4 fun e w' => ∃ m tag x, e = .returned (.pointer (some ⟨m, 0, none⟩)) ∧ TC w' tag m (clampc q) 0 x ⟨[pairM, pairF], [[], [true]], picks, [], fun _ => none, []⟩ ∧ (∀ k, tag k ≠ 0 → w4.heap.size ≤ k) ∧ Below w4.heap.size w4 w' := by
  obtain ⟨e1, e2, e3, hQ, hs, hc⟩ := hp
  have hpb : PubIs w4 (.slice (some ⟨Q + 1, 0, none⟩) 2 2) [[], [true]] := ⟨_, 2, rfl, Nat.le_refl _, by simp [maxLen], fun _ => ⟨Q + 1, 0, rfl, fun j l hl => by
    match j, hl with
    | 0, hl =>
      have hl : [] = l := Option.some.inj hl
      subst hl
      exact ⟨_, cell_of_block e2 0, none, 0, rfl, Nat.le_refl _, by simp [maxLen], fun h => by simp at h⟩
    | 1, hl =>
      have hl : [true] = l := Option.some.inj hl
      subst hl
      refine ⟨_, cell_of_block e2 1, _, 1, rfl, Nat.le_refl _, by simp [maxLen], fun _ => ⟨Q, 0, rfl, fun i y hy => ?_⟩⟩
      match i, hy with
      | 0, hy =>
        have hy : true = y := Option.some.inj hy
        subst hy
        exact cell_of_block e1 0⟩⟩
  exact tnew_any (fs := [pairM, pairF]) q (hF.keep hc.to_below) hpb (num_block e3 hn (by unfold maxLen; omega)) (by omega) (by simp) (fun f hf => by
    rcases List.mem_cons.1 hf with rfl | hf
    · refine ⟨by decide, fun y hy => ?_⟩
      rcases List.mem_cons.1 hy with rfl | hy
      · constructor <;> (unfold In64; simp)
      · rw [List.mem_singleton.1 hy]
        constructor <;> (unfold In64; simp)
    · rw [List.mem_singleton.1 hf]
      refine ⟨by decide, fun y hy => ?_⟩
      have hy : y = ⟨2, 0, 0⟩ ∨ y = ⟨1, 0, 3⟩ ∨ y = ⟨8, 0, 0⟩ ∨ y = ⟨18, 0, 0⟩ := by simpa [pairF] using hy
      rcases hy with rfl | rfl | rfl | rfl <;> (constructor <;> (unfold In64; simp))) (by simp) (fun r hr => by
    have hr : r = [] ∨ r = [true] := by simpa using hr
    rcases hr with rfl | rfl <;> simp) hk
end Go.Proofs.YtgiegkacilfofabDoor
namespace Go.Proofs.YtgiegkacilfofabDoor
set_option linter.unusedVariables false
set_option linter.unusedSimpArgs false
open Go.RowKit

def kT0 (b : Bool) : TS := ⟨[pairM, pairF], [[], [true]], [if b then 2 else 1], [], fun _ => none, []⟩
theorem keep_fold : foldv pairF.l = pairF.l := by kernel_rfl
theorem keep_for (x : Int) : forv pairF.l 1 0 x = [⟨1, 0, wrap64 (x * 3)⟩, ⟨18, 0, 0⟩] := by kernel_rfl
/-- behind the first call -/
structure KInv (b : Bool) (x0 : Int) (T : TS) (n : Nat) : Prop where
  fs : T.fs = [pairM, pairF]
  pub : T.pub = [[], [true]]
  picks : T.picks = []
  body : ∃ l, getl T.cache 1 = some l ∧ 0 < l.length
  gd : T.gd 1 = if b then some (0, x0) else none
  evs : T.evs.length = n + 1
theorem keep_seen {T : TS} (h1 : T.fs = [pairM, pairF]) (h2 : T.pub = [[], [true]]) (x : Int) : seenV T 1 [x] = [x] := by
  unfold seenV TS.f
  rw [h1, h2]
  rfl
theorem keep_first (b : Bool) (x0 : Int) : ∃ body, 0 < body.length ∧ (enterV 1 (kT0 b) 1 [x0]).1 = (body, true, 8) ∧ KInv b x0 (enterV 1 (kT0 b) 1 [x0]).2 1 := by
  have he : enterV 1 (kT0 b) 1 [x0] = lastV (midV 1 (kT0 b) 1 [x0]).1 1 [x0] (midV 1 (kT0 b) 1 [x0]).2 := by
    unfold enterV
    rw [if_neg (by show ¬ ((1 : Int) < 1 ∨ (2 : Int) ≤ 1); omega)]
    unfold enterN
    show lastV (midV 1 (kT0 b) 1 (seenV (kT0 b) 1 [x0])).1 1 (seenV (kT0 b) 1 [x0]) (midV 1 (kT0 b) 1 (seenV (kT0 b) 1 [x0])).2 = _
    rw [keep_seen rfl rfl]
  rw [he]
  cases b with
  | false =>
    have hm : midV 1 (kT0 false) 1 [x0] = (⟨[pairM, pairF], [[], [true]], [], [(1, pairF.l)], fun _ => none, [(1, 1)]⟩, 8) := by kernel_rfl
    rw [hm]
    exact ⟨pairF.l, by decide, rfl, rfl, rfl, rfl, ⟨pairF.l, rfl, by decide⟩, rfl, rfl⟩
  | true =>
    have hm : midV 1 (kT0 true) 1 [x0] = (⟨[pairM, pairF], [[], [true]], [], [(1, [⟨1, 0, wrap64 (x0 * 3)⟩, ⟨18, 0, 0⟩])], fun x => if x = 1 then some (0, x0) else none, [(1, 1)]⟩, 8) := by kernel_rfl
    rw [hm]
    have hl : lastV ⟨[pairM, pairF], [[], [true]], [], [(1, [⟨1, 0, wrap64 (x0 * 3)⟩, ⟨18, 0, 0⟩])], fun x => if x = 1 then some (0, x0) else none, [(1, 1)]⟩ 1 [x0] 8 =
        (([⟨1, 0, wrap64 (x0 * 3)⟩, ⟨18, 0, 0⟩], true, 8), ⟨[pairM, pairF], [[], [true]], [], [(1, [⟨1, 0, wrap64 (x0 * 3)⟩, ⟨18, 0, 0⟩])], fun x => if x = 1 then some (0, x0) else none, [(1, 1), (2, 1)]⟩) := by
      unfold lastV
      show (if x0 = x0 then _ else _) = _
      rw [if_pos rfl]
      rfl
    rw [hl]
    exact ⟨[⟨1, 0, wrap64 (x0 * 3)⟩, ⟨18, 0, 0⟩], Nat.succ_pos 1, rfl, rfl, rfl, rfl, ⟨[⟨1, 0, wrap64 (x0 * 3)⟩, ⟨18, 0, 0⟩], rfl, Nat.succ_pos 1⟩, rfl, rfl⟩
theorem keep_step {b : Bool} {x0 : Int} {T : TS} {n : Nat} (h : KInv b x0 T n) (x : Int) : ∃ body, (enterV 1 T 1 [x]).1 = (body, !b || decide (x = x0), if (!b || decide (x = x0)) = true then 0 else 50) ∧ (0 < body.length ↔ (!b || decide (x = x0)) = true) ∧ KInv b x0 (enterV 1 T 1 [x]).2 (n + 1) := by
  obtain ⟨h1, h2, h3, ⟨l, h4, h4l⟩, h5, h6⟩ := h
  have he : enterV 1 T 1 [x] = lastV (pickedV T) 1 [x] 0 := by
    unfold enterV
    rw [if_neg (by rw [h1]; show ¬ ((1 : Int) < 1 ∨ (2 : Int) ≤ 1); omega)]
    unfold enterN
    show lastV (midV 1 T 1 (seenV T 1 [x])).1 1 (seenV T 1 [x]) (midV 1 T 1 (seenV T 1 [x])).2 = _
    rw [keep_seen h1 h2]
    have hp : pickV T = 0 := by unfold pickV; rw [h3]; rfl
    have hm : midV 1 T 1 [x] = (pickedV T, 0) := by
      unfold midV
      rw [hp, if_neg (by omega), if_neg (by omega)]
    rw [hm]
  have hc : getl (pickedV T).cache ((1 : Nat) : Int) = some l := h4
  have hg : (pickedV T).gd ((1 : Nat) : Int) = if b then some (0, x0) else none := h5
  have hpk : (pickedV T).picks = [] := by show T.picks.tail = []; rw [h3]; rfl
  have hev : ∀ e : Int × Int, ((pickedV T).evs ++ [e]).length = n + 1 + 1 := fun e => by rw [List.length_append]; show T.evs.length + 1 = _; rw [h6]
  rw [he]
  unfold lastV
  rw [hc]
  simp only
  rw [hg]
  cases b with
  | false => exact ⟨l, rfl, ⟨fun _ => rfl, fun _ => h4l⟩, h1, h2, hpk, ⟨l, h4, h4l⟩, h5, hev _⟩
  | true =>
    simp only [if_true, Bool.not_true, Bool.false_or]
    show ∃ body, (if x = x0 then ((l, true, (0 : Int)), noteV (pickedV T) 2 1) else (([], false, 0 + 50), noteV (pickedV T) 3 1)).1 = _ ∧ _ ∧ KInv true x0 (if x = x0 then ((l, true, (0 : Int)), noteV (pickedV T) 2 1) else (([], false, 0 + 50), noteV (pickedV T) 3 1)).2 (n + 1)
    by_cases hx : x = x0
    · rw [if_pos hx, decide_eq_true hx]
      exact ⟨l, rfl, ⟨fun _ => rfl, fun _ => h4l⟩, h1, h2, hpk, ⟨l, h4, h4l⟩, h5, hev _⟩
    · rw [if_neg hx, decide_eq_false hx]
      exact ⟨[], rfl, ⟨fun h => by simp at h, fun h => by simp at h⟩, h1, h2, hpk, ⟨l, h4, h4l⟩, h5, hev _⟩

/-- with other picks, that begin alike, all goes the same -/
def TS.withP (T : TS) (p : List Int) : TS := { T with picks := p }
theorem mid_withP (cap : Int) (T : TS) (p : List Int) (h : p.headD 0 = T.picks.headD 0) (fn : Nat) (own : List Int) : midV cap (T.withP p) fn own = ((midV cap T fn own).1.withP p.tail, (midV cap T fn own).2) ∧ (midV cap T fn own).1.picks = T.picks.tail := by
  have hp : pickV (T.withP p) = pickV T := h
  have hh : hasV (T.withP p) fn = hasV T fn := rfl
  unfold midV
  rw [hp, hh]
  split
  · refine ⟨?_, rfl⟩
    refine Prod.ext ?_ rfl
    show compV cap (pickedV (T.withP p)) fn (pickV T) own = (compV cap (pickedV T) fn (pickV T) own).withP p.tail
    have hb : bodyV (pickedV (T.withP p)) fn (pickV T) own = bodyV (pickedV T) fn (pickV T) own := rfl
    unfold compV
    rw [hb]
    rfl
  · split
    · exact ⟨rfl, rfl⟩
    · exact ⟨rfl, rfl⟩
theorem last_withP (T : TS) (p : List Int) (fn : Nat) (own : List Int) (ch : Int) : lastV (T.withP p) fn own ch = ((lastV T fn own ch).1, (lastV T fn own ch).2.withP p) ∧ (lastV T fn own ch).2.picks = T.picks := by
  have hc : (T.withP p).cache = T.cache := rfl
  have hg : (T.withP p).gd = T.gd := rfl
  unfold lastV
  rw [hc, hg]
  rcases getl T.cache fn with _ | body
  · exact ⟨rfl, rfl⟩
  · simp only
    rcases T.gd fn with _ | g
    · exact ⟨rfl, rfl⟩
    · simp only
      split
      · exact ⟨rfl, rfl⟩
      · exact ⟨rfl, rfl⟩
/-- picks that are the same, noughts behind them or not -/
def Alike (p q : List Int) : Prop := ∀ i, p.getD i 0 = q.getD i 0
theorem Alike.head {p q : List Int} (h : Alike p q) : p.headD 0 = q.headD 0 := by
  have hh := h 0
  cases p with
  | nil => cases q with
    | nil => rfl
    | cons b q => exact hh
  | cons a p => cases q with
    | nil => exact hh
    | cons b q => exact hh
theorem Alike.tail {p q : List Int} (h : Alike p q) : Alike p.tail q.tail := fun i => by
  have hh := h (i + 1)
  cases p with
  | nil => cases q with
    | nil => rfl
    | cons b q => exact hh
  | cons a p => cases q with
    | nil => exact hh
    | cons b q => exact hh
theorem enter_withP (cap : Int) (T : TS) (p : List Int) (h : Alike p T.picks) (fn : Int) (args : List Int) : (enterV cap (T.withP p) fn args).1 = (enterV cap T fn args).1 ∧ ∃ q, Alike q (enterV cap T fn args).2.picks ∧ (enterV cap (T.withP p) fn args).2 = (enterV cap T fn args).2.withP q := by
  unfold enterV
  have hf : (T.withP p).fs = T.fs := rfl
  rw [hf]
  split
  · exact ⟨rfl, p, h, rfl⟩
  · unfold enterN
    have hs : seenV (T.withP p) fn.toNat args = seenV T fn.toNat args := rfl
    rw [hs]
    obtain ⟨h1, h2⟩ := mid_withP cap T p h.head fn.toNat (seenV T fn.toNat args)
    rw [h1]
    simp only
    obtain ⟨h3, h4⟩ := last_withP (midV cap T fn.toNat (seenV T fn.toNat args)).1 p.tail fn.toNat (seenV T fn.toNat args) (midV cap T fn.toNat (seenV T fn.toNat args)).2
    rw [h3]
    refine ⟨rfl, p.tail, ?_, rfl⟩
    rw [h4, h2]
    exact h.tail
end Go.Proofs.YtgiegkacilfofabDoor
namespace Go.Proofs.YtgiegkacilfofabDoor
set_option linter.unusedVariables false
set_option linter.unusedSimpArgs false
open Go.RowKit

/-- how many were thrown away, if in turn -/
def goneS (g : Option Nat) (e : Int × Int) : Option Nat := match g with | none => none | some g => if e.1 = 4 then (if e.2 = (g : Int) + 1 then some (g + 1) else none) else some g
def goneV (l : List (Int × Int)) : Option Nat := l.foldl goneS (some 0)
theorem gone_none (l : List (Int × Int)) : l.foldl goneS none = none := by
  induction l with
  | nil => rfl
  | cons e l ih => exact ih
theorem gone_snoc (l : List (Int × Int)) (e : Int × Int) : goneV (l ++ [e]) = goneS (goneV l) e := by unfold goneV; rw [List.foldl_append]; rfl
theorem gone_take {l : List (Int × Int)} {G : Nat} (h : goneV l = some G) (p : Nat) : ∃ g, goneV (l.take p) = some g := by
  have h2 : goneV l = (l.drop p).foldl goneS (goneV (l.take p)) := by
    unfold goneV
    rw [← List.foldl_append, List.take_append_drop]
  rw [h] at h2
  rcases hg : goneV (l.take p) with _ | g
  · rw [hg, gone_none] at h2; cases h2
  · exact ⟨g, rfl⟩
def evF (n : Nat) : List FnR := pairM :: List.replicate n pairF
/-- the cache behind i calls -/
def evC (lo k : Nat) : List (Int × List InsR) := (List.range k).map fun t => (((lo + t + 1 : Nat) : Int), pairF.l)
theorem evC_len (lo k : Nat) : (evC lo k).length = k := by unfold evC; rw [List.length_map, List.length_range]
theorem evC_get (lo k : Nat) (j : Nat) : getl (evC lo k) (j : Int) = if lo < j ∧ j ≤ lo + k then some pairF.l else none := by
  split
  · rename_i h
    have hs : (getl (evC lo k) (j : Int)).isSome = true := by
      unfold getl
      rw [Option.isSome_map, List.find?_isSome]
      refine ⟨((j : Int), pairF.l), ?_, by simp⟩
      unfold evC
      rw [List.mem_map]
      exact ⟨j - lo - 1, List.mem_range.2 (by omega), by rw [show lo + (j - lo - 1) + 1 = j by omega]⟩
    obtain ⟨e, he⟩ := Option.isSome_iff_exists.1 hs
    rw [he]
    unfold getl at he
    rw [Option.map_eq_some_iff] at he
    obtain ⟨x, hx, rfl⟩ := he
    have hx := List.mem_of_find?_eq_some hx
    unfold evC at hx
    obtain ⟨t, _, rfl⟩ := List.mem_map.1 hx
    rfl
  · rename_i h
    rw [tgetl_none]
    intro e he
    unfold evC at he
    obtain ⟨t, ht, rfl⟩ := List.mem_map.1 he
    have ht := List.mem_range.1 ht
    simp only
    omega
theorem evC_snoc (lo k : Nat) : evC lo k ++ [(((lo + k + 1 : Nat) : Int), pairF.l)] = evC lo (k + 1) := by
  unfold evC
  rw [List.range_succ, List.map_append]
  rfl
theorem evC_drop (lo k : Nat) : (evC lo (k + 1)).filter (fun e => e.1 != ((lo + 1 : Nat) : Int)) = evC (lo + 1) k := by
  unfold evC
  rw [List.range_succ_eq_map, List.map_cons, List.map_map, List.filter_cons_of_neg (by simp)]
  have e : ((fun t => ((((lo + t + 1 : Nat) : Int), pairF.l) : Int × List InsR)) ∘ Nat.succ) = fun t => (((lo + 1 + t + 1 : Nat) : Int), pairF.l) := by
    funext t
    simp only [Function.comp]
    rw [show lo + t.succ + 1 = lo + 1 + t + 1 by omega]
  rw [e, List.filter_eq_self]
  intro a ha
  obtain ⟨t, _, rfl⟩ := List.mem_map.1 ha
  simp only [bne_iff_ne, ne_eq]
  omega
/-- behind i calls of the first round -/
structure EInv (r n : Nat) (i : Nat) (T : TS) : Prop where
  fs : T.fs = evF n
  pub : T.pub = []
  picks : T.picks = List.replicate (n - i) 1
  cache : T.cache = evC (i - r) (i - (i - r))
  gd : ∀ x, T.gd x = none
  evs : goneV T.evs = some (i - r)
theorem ev_f {T : TS} {n : Nat} (h : T.fs = evF n) {i : Nat} (hi : i < n) : T.f (i + 1) = pairF := by
  unfold TS.f evF at *
  rw [h, List.getD_eq_getElem?_getD]
  rw [List.getElem?_cons_succ, List.getElem?_replicate, if_pos hi]
  rfl
theorem ev_enter {T : TS} {n : Nat} (h : T.fs = evF n) {i : Nat} (hi : i < n) (cap : Int) (args : List Int) : enterV cap T ((i : Int) + 1) args = enterN cap T (i + 1) args := by
  have hl : T.fs.length = n + 1 := by rw [h]; unfold evF; simp
  unfold enterV
  rw [if_neg (by rw [hl]; omega)]
  congr 1
theorem ev_first {r n i : Nat} {T : TS} (h : EInv r n i T) (hr : 1 ≤ r) (hi : i < n) (args : List Int) : (enterV r T ((i : Int) + 1) args).1 = (pairF.l, true, 8) ∧ EInv r n (i + 1) (enterV r T ((i : Int) + 1) args).2 := by
  obtain ⟨h1, h2, h3, h4, h5, h6⟩ := h
  rw [ev_enter h1 hi]
  have hpk : T.picks = 1 :: List.replicate (n - (i + 1)) 1 := by rw [h3, show n - i = (n - (i + 1)) + 1 by omega]; rfl
  have hp : pickV T = 1 := by unfold pickV; rw [hpk]; rfl
  have hn : getl T.cache ((i + 1 : Nat) : Int) = none := by rw [h4, evC_get, if_neg (by omega)]
  have hh : hasV T (i + 1) = false := by unfold hasV; rw [hn]; rfl
  have hb : ∀ own, bodyV (pickedV T) (i + 1) 1 own = (pairF.l, T.gd) := fun own => by
    unfold bodyV
    rw [if_neg (by decide)]
    show (foldv (T.f (i + 1)).l, T.gd) = _
    rw [ev_f h1 hi, keep_fold]
  obtain ⟨p1, p2⟩ := putv_spec (cap := (r : Int)) (body := pairF.l) hn (by omega)
  -- behind the pick
  have hm : ∀ own, ∃ M : TS, midV r T (i + 1) own = (M, 8) ∧ M.fs = evF n ∧ M.pub = [] ∧ M.picks = List.replicate (n - (i + 1)) 1 ∧ M.cache = evC (i + 1 - r) (i + 1 - (i + 1 - r)) ∧ (∀ x, M.gd x = none) ∧ goneV M.evs = some (i + 1 - r) := fun own => by
    unfold midV
    rw [hp, if_pos ⟨.inl rfl, hh⟩]
    refine ⟨compV r (pickedV T) (i + 1) 1 own, ?_, ?_⟩
    · rw [ev_f h1 hi]; rfl
    · unfold compV
      rw [hb own]
      unfold putS
      simp only
      have hpc : (pickedV T).cache = T.cache := rfl
      have hlen : T.cache.length = i - (i - r) := by rw [h4, evC_len]
      have hpt : T.picks.tail = List.replicate (n - (i + 1)) 1 := by rw [hpk]; rfl
      rw [hpc]
      by_cases hc : (T.cache.length : Int) = r
      · rw [p1 hc]
        have hir : r ≤ i := by omega
        obtain ⟨k, hk⟩ : ∃ k, i - (i - r) = k + 1 := ⟨i - (i - r) - 1, by omega⟩
        have hd : (T.cache.map Prod.fst).headD 0 = ((i - r + 1 : Nat) : Int) := by
          rw [h4, hk]
          unfold evC
          rw [List.range_succ_eq_map]
          rfl
        rw [hd]
        refine ⟨h1, h2, hpt, ?_, fun x => ?_, ?_⟩
        · show (T.cache.filter (fun e => e.1 != ((i - r + 1 : Nat) : Int)) ++ [(((i + 1 : Nat) : Int), pairF.l)]) = _
          rw [h4, hk, evC_drop]
          have e := evC_snoc (i - r + 1) k
          rw [show i - r + 1 + k + 1 = i + 1 by omega] at e
          rw [e, show i + 1 - r = i - r + 1 by omega, show i + 1 - (i - r + 1) = k + 1 by omega]
        · simp only [if_true]
          split
          · rfl
          · exact h5 x
        · show goneV (T.evs ++ [(1, ((i + 1 : Nat) : Int))] ++ [(4, ((i - r + 1 : Nat) : Int))]) = _
          rw [gone_snoc, gone_snoc, h6]
          unfold goneS
          simp only
          rw [if_neg (by decide)]
          simp only
          simp only [if_true]
          rw [if_pos (by omega), show i - r + 1 = i + 1 - r by omega]
      · rw [p2 hc]
        have hir : i < r := by omega
        refine ⟨h1, h2, hpt, ?_, fun x => ?_, ?_⟩
        · show T.cache ++ [(((i + 1 : Nat) : Int), pairF.l)] = _
          rw [h4]
          have e := evC_snoc (i - r) (i - (i - r))
          rw [show i - r + (i - (i - r)) + 1 = i + 1 by omega] at e
          rw [e, show i + 1 - r = i - r by omega, show i - (i - r) + 1 = i + 1 - (i - r) by omega]
        · simp only [Bool.false_eq_true, if_false]
          exact h5 x
        · show goneV (T.evs ++ [(1, ((i + 1 : Nat) : Int))] ++ (if false = true then _ else [])) = _
          simp only [Bool.false_eq_true, if_false, List.append_nil]
          rw [gone_snoc, h6]
          unfold goneS
          simp only
          rw [if_neg (by decide), show i + 1 - r = i - r by omega]
  unfold enterN
  obtain ⟨M, hM, m1, m2, m3, m4, m5, m6⟩ := hm (seenV T (i + 1) args)
  rw [hM]
  simp only
  unfold lastV
  have hg : getl M.cache ((i + 1 : Nat) : Int) = some pairF.l := by rw [m4, evC_get, if_pos (by omega)]
  rw [hg]
  simp only
  rw [m5]
  refine ⟨rfl, m1, m2, m3, m4, m5, ?_⟩
  show goneV (M.evs ++ [(2, ((i + 1 : Nat) : Int))]) = _
  rw [gone_snoc, m6]
  unfold goneS
  simp only
  rw [if_neg (by decide)]
/-- behind the first round -/
structure EInv2 (r n : Nat) (T : TS) : Prop where
  fs : T.fs = evF n
  picks : T.picks = []
  cache : T.cache = evC (n - r) (n - (n - r))
  gd : ∀ x, T.gd x = none
  evs : goneV T.evs = some (n - r)
theorem EInv.second {r n : Nat} {T : TS} (h : EInv r n n T) : EInv2 r n T := ⟨h.fs, by rw [h.picks, Nat.sub_self]; rfl, h.cache, h.gd, h.evs⟩
theorem ev_second {r n i : Nat} {T : TS} (h : EInv2 r n T) (hi : i < n) (args : List Int) : (∃ body, (enterV r T ((i : Int) + 1) args).1 = (body, decide (n - r < i + 1), 0)) ∧ EInv2 r n (enterV r T ((i : Int) + 1) args).2 := by
  obtain ⟨h1, h3, h4, h5, h6⟩ := h
  rw [ev_enter h1 hi]
  have hp : pickV T = 0 := by unfold pickV; rw [h3]; rfl
  have hm : ∀ own, midV r T (i + 1) own = (pickedV T, 0) := fun own => by
    unfold midV
    rw [hp, if_neg (by omega), if_neg (by omega)]
  have hpt : T.picks.tail = [] := by rw [h3]; rfl
  unfold enterN
  rw [hm]
  simp only
  unfold lastV
  have hg : getl (pickedV T).cache ((i + 1 : Nat) : Int) = if n - r < i + 1 then some pairF.l else none := by
    show getl T.cache _ = _
    rw [h4, evC_get]
    by_cases hc : n - r < i + 1
    · rw [if_pos ⟨hc, by omega⟩, if_pos hc]
    · rw [if_neg (fun h => hc h.1), if_neg hc]
  rw [hg]
  by_cases hc : n - r < i + 1
  · rw [if_pos hc, decide_eq_true hc]
    simp only
    rw [show (pickedV T).gd ((i + 1 : Nat) : Int) = none from h5 _]
    refine ⟨⟨pairF.l, rfl⟩, h1, hpt, h4, h5, ?_⟩
    show goneV (T.evs ++ [(2, ((i + 1 : Nat) : Int))]) = _
    rw [gone_snoc, h6]
    unfold goneS
    simp only
    rw [if_neg (by decide)]
  · rw [if_neg hc, decide_eq_false hc]
    exact ⟨⟨[], rfl⟩, h1, hpt, h4, h5, h6⟩
end Go.Proofs.YtgiegkacilfofabDoor
