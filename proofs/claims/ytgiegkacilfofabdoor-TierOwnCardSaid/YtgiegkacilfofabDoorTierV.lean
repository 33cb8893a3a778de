/- tier, plainly: which body is run. -/
import Derived.Test.YtgiegkacilfofabDoorSpecC
import Derived.Test.YtgiegkacilfofabDoorCachePut
import Derived.Test.YtgiegkacilfofabDoorFn
namespace Go.Proofs.YtgiegkacilfofabDoor
set_option linter.unusedVariables false
set_option linter.unusedSimpArgs false
open Go.RowKit

def tFn : FnR := ⟨⟨#[]⟩, 0, 0, 0, []⟩
structure TS where
  fs : List FnR
  pub : List (List Bool)
  picks : List Int
  cache : List (Int × List InsR)
  gd : Int → Option (Nat × Int)
  evs : List (Int × Int)
/-- is a parameter public? -/
def openV (pub : List (List Bool)) (fn i : Nat) : Bool := (pub.getD fn []).getD i false
def parV (f : FnR) : Nat := (min (max f.ps 0) 8).toNat
def TS.f (T : TS) (fn : Nat) : FnR := T.fs.getD fn tFn
/-- the arguments as the profile sees them -/
def seenV (T : TS) (fn : Nat) (args : List Int) : List Int := (List.range (parV (T.f fn))).map fun i => if openV T.pub fn i = true then args.getD i 0 else 0
def firstOpen (T : TS) (fn : Nat) : Option Nat := (List.range (parV (T.f fn))).find? fun i => openV T.pub fn i
def bodyV (T : TS) (fn : Nat) (pick : Int) (own : List Int) : List InsR × (Int → Option (Nat × Int)) :=
  match (if pick = 2 then firstOpen T fn else none) with
  | some k => (forv (T.f fn).l (T.f fn).ps k (own.getD k 0), fun x => if x = (fn : Int) then some (k, own.getD k 0) else T.gd x)
  | none => (foldv (T.f fn).l, T.gd)
def putS (cap : Int) (T : TS) (fn : Nat) (body : List InsR) : TS :=
  { T with
    cache := (putv cap T.cache fn body).2.2
    gd := if (putv cap T.cache fn body).2.1 = true then (fun x => if x = (putv cap T.cache fn body).1 then none else T.gd x) else T.gd
    evs := T.evs ++ [(1, (fn : Int))] ++ (if (putv cap T.cache fn body).2.1 = true then [(4, (putv cap T.cache fn body).1)] else []) }
def compV (cap : Int) (T : TS) (fn : Nat) (pick : Int) (own : List Int) : TS := putS cap { T with gd := (bodyV T fn pick own).2 } fn (bodyV T fn pick own).1
def dropV (T : TS) (fn : Nat) : TS := { T with cache := T.cache.filter (fun e => e.1 != (fn : Int)), gd := fun x => if x = (fn : Int) then none else T.gd x, evs := T.evs ++ [(4, (fn : Int))] }
def pickV (T : TS) : Int := T.picks.headD 0
def pickedV (T : TS) : TS := { T with picks := T.picks.tail }
def hasV (T : TS) (fn : Nat) : Bool := (getl T.cache fn).isSome
/-- behind the pick -/
def midV (cap : Int) (T : TS) (fn : Nat) (own : List Int) : TS × Int :=
  if (pickV T = 1 ∨ pickV T = 2) ∧ hasV T fn = false then (compV cap (pickedV T) fn (pickV T) own, 2 * ((T.f fn).l.length : Int))
  else if pickV T = 3 ∧ hasV T fn = true then (dropV (pickedV T) fn, 0)
  else (pickedV T, 0)
def noteV (T : TS) (kind : Int) (fn : Nat) : TS := { T with evs := T.evs ++ [(kind, (fn : Int))] }
/-- what is answered, behind all that -/
def lastV (T : TS) (fn : Nat) (own : List Int) (ch : Int) : (List InsR × Bool × Int) × TS :=
  match getl T.cache fn with
  | none => (([], false, ch), T)
  | some body =>
    match T.gd fn with
    | none => ((body, true, ch), noteV T 2 fn)
    | some g => if own.getD g.1 0 = g.2 then ((body, true, ch), noteV T 2 fn) else (([], false, ch + 50), noteV T 3 fn)
def enterN (cap : Int) (T : TS) (fn : Nat) (args : List Int) : (List InsR × Bool × Int) × TS :=
  lastV (midV cap T fn (seenV T fn args)).1 fn (seenV T fn args) (midV cap T fn (seenV T fn args)).2
def enterV (cap : Int) (T : TS) (fn : Int) (args : List Int) : (List InsR × Bool × Int) × TS :=
  if fn < 1 ∨ (T.fs.length : Int) ≤ fn then (([], false, 0), T) else enterN cap T fn.toNat args

/-- what is always so -/
structure TInv (cap : Int) (T : TS) : Prop where
  keys : ∀ e ∈ T.cache, 1 ≤ e.1 ∧ e.1 < (T.fs.length : Int)
  gd : ∀ x g, T.gd x = some g → (getl T.cache x).isSome = true ∧ g.1 < parV (T.f x.toNat)
theorem seen_len (T : TS) (fn : Nat) (args : List Int) : (seenV T fn args).length = parV (T.f fn) := by unfold seenV; rw [List.length_map, List.length_range]
theorem firstOpen_some {T : TS} {fn k : Nat} (h : firstOpen T fn = some k) : k < parV (T.f fn) ∧ openV T.pub fn k = true := by
  unfold firstOpen at h
  have h1 := List.mem_of_find?_eq_some h
  exact ⟨List.mem_range.1 h1, by simpa using List.find?_some h⟩
theorem putv_spec {cap : Int} {l : List (Int × List InsR)} {fn : Int} {body : List InsR} (hn : getl l fn = none) (hc : 1 ≤ cap) :
    ((l.length : Int) = cap → putv cap l fn body = ((l.map Prod.fst).headD 0, true, l.filter (fun e => e.1 != (l.map Prod.fst).headD 0) ++ [(fn, body)])) ∧ ((l.length : Int) ≠ cap → putv cap l fn body = (0, false, l ++ [(fn, body)])) := by
  unfold putv
  rw [hn]
  refine ⟨fun h => ?_, fun h => ?_⟩
  · rw [if_neg (by simp), if_pos h]
  · rw [if_neg (by simp), if_neg h]
theorem tgetl_none {l : List (Int × List InsR)} {fn : Int} : getl l fn = none ↔ ∀ e ∈ l, e.1 ≠ fn := by
  unfold getl
  rw [Option.map_eq_none_iff, List.find?_eq_none]
  simp
theorem tgetl_some {l : List (Int × List InsR)} {fn : Int} (h : (getl l fn).isSome = true) : ∃ e ∈ l, e.1 = fn := by
  unfold getl at h
  rw [Option.isSome_map] at h
  obtain ⟨e, he⟩ := Option.isSome_iff_exists.1 h
  exact ⟨e, List.mem_of_find?_eq_some he, by simpa using List.find?_some he⟩
theorem tgetl_append_some {l r : List (Int × List InsR)} {fn : Int} (h : (getl l fn).isSome = true) : getl (l ++ r) fn = getl l fn := by
  unfold getl at *
  rw [List.find?_append]
  rw [Option.isSome_map] at h
  obtain ⟨e, he⟩ := Option.isSome_iff_exists.1 h
  rw [he]
  rfl
theorem tgetl_append_none {l r : List (Int × List InsR)} {fn : Int} (h : getl l fn = none) : getl (l ++ r) fn = getl r fn := by
  unfold getl at *
  rw [List.find?_append]
  rw [Option.map_eq_none_iff] at h
  rw [h]
  rfl
theorem TInv.put {cap : Int} {T : TS} (h : TInv cap T) {fn : Nat} {body : List InsR} (hc : 1 ≤ cap) (hn : getl T.cache fn = none) (hf : 1 ≤ fn ∧ fn < T.fs.length) {gd : Int → Option (Nat × Int)} (hg : ∀ x g, gd x = some g → x = (fn : Int) ∧ g.1 < parV (T.f fn) ∨ T.gd x = some g) : TInv cap (putS cap { T with gd := gd } fn body) := by
  obtain ⟨p1, p2⟩ := putv_spec (body := body) hn hc
  unfold putS
  simp only
  by_cases hl : (T.cache.length : Int) = cap
  · rw [p1 hl]
    simp only [if_true]
    refine ⟨fun e he => ?_, fun x g hx => ?_⟩
    · rcases List.mem_append.1 he with he | he
      · exact h.keys e (List.mem_filter.1 he).1
      · rw [List.mem_singleton.1 he]
        simp only
        omega
    · simp only at hx ⊢
      split at hx
      · cases hx
      · rename_i hne
        rcases hg x g hx with ⟨rfl, hg1⟩ | hg1
        · refine ⟨?_, by rw [Int.toNat_natCast]; exact hg1⟩
          rw [tgetl_append_none (by rw [getl_filter, if_neg hne]; exact hn)]
          simp [getl]
        · obtain ⟨g2, g3⟩ := h.gd x g hg1
          refine ⟨?_, g3⟩
          rw [tgetl_append_some (by rw [getl_filter, if_neg hne]; exact g2), getl_filter, if_neg hne]
          exact g2
  · rw [p2 hl]
    simp only [Bool.false_eq_true, if_false]
    refine ⟨fun e he => ?_, fun x g hx => ?_⟩
    · rcases List.mem_append.1 he with he | he
      · exact h.keys e he
      · rw [List.mem_singleton.1 he]
        simp only
        omega
    · simp only at hx ⊢
      rcases hg x g hx with ⟨rfl, hg1⟩ | hg1
      · refine ⟨?_, by rw [Int.toNat_natCast]; exact hg1⟩
        rw [tgetl_append_none hn]
        simp [getl]
      · obtain ⟨g2, g3⟩ := h.gd x g hg1
        refine ⟨?_, g3⟩
        rw [tgetl_append_some g2]
        exact g2
theorem TInv.drop {cap : Int} {T : TS} (h : TInv cap T) (fn : Nat) : TInv cap (dropV T fn) := by
  unfold dropV
  refine ⟨fun e he => h.keys e (List.mem_filter.1 he).1, fun x g hx => ?_⟩
  simp only at hx ⊢
  split at hx
  · cases hx
  · rename_i hne
    obtain ⟨g2, g3⟩ := h.gd x g hx
    rw [getl_filter, if_neg hne]
    exact ⟨g2, g3⟩
theorem TInv.picked {cap : Int} {T : TS} (h : TInv cap T) : TInv cap (pickedV T) := ⟨h.keys, h.gd⟩
theorem TInv.note {cap : Int} {T : TS} (h : TInv cap T) (k : Int) (fn : Nat) : TInv cap (noteV T k fn) := ⟨h.keys, h.gd⟩
theorem bodyV_gd {T : TS} {fn : Nat} {pick : Int} {own : List Int} : ∀ x g, (bodyV T fn pick own).2 x = some g → x = (fn : Int) ∧ g.1 < parV (T.f fn) ∨ T.gd x = some g := fun x g hx => by
  unfold bodyV at hx
  split at hx
  · rename_i k hk
    simp only at hx
    split at hx
    · rename_i he
      injection hx with hx
      left
      refine ⟨he, ?_⟩
      rw [← hx]
      split at hk
      · exact (firstOpen_some hk).1
      · cases hk
    · exact .inr hx
  · exact .inr hx
theorem TInv.comp {cap : Int} {T : TS} (h : TInv cap T) {fn : Nat} {pick : Int} {own : List Int} (hc : 1 ≤ cap) (hn : getl T.cache fn = none) (hf : 1 ≤ fn ∧ fn < T.fs.length) : TInv cap (compV cap T fn pick own) := h.put hc hn hf bodyV_gd
theorem TInv.mid {cap : Int} {T : TS} (h : TInv cap T) {fn : Nat} {own : List Int} (hc : 1 ≤ cap) (hf : 1 ≤ fn ∧ fn < T.fs.length) : TInv cap (midV cap T fn own).1 := by
  unfold midV
  split
  · rename_i hh
    have hn : getl T.cache fn = none := by
      have := hh.2
      unfold hasV at this
      simpa using this
    exact h.picked.comp hc hn hf
  · split
    · exact h.picked.drop fn
    · exact h.picked
theorem TInv.last {cap : Int} {T : TS} (h : TInv cap T) (fn : Nat) (own : List Int) (ch : Int) : TInv cap (lastV T fn own ch).2 := by
  unfold lastV
  split
  · exact h
  · split
    · exact h.note _ _
    · split <;> exact h.note _ _
theorem TInv.enter {cap : Int} {T : TS} (h : TInv cap T) (hc : 1 ≤ cap) (fn : Int) (args : List Int) : TInv cap (enterV cap T fn args).2 := by
  unfold enterV
  split
  · exact h
  · exact (h.mid hc (by omega)).last _ _ _
end Go.Proofs.YtgiegkacilfofabDoor
