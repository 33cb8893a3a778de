/- The heap of arrays: what its memory is, and what its methods do: New, piece, Make, array, cell, Get, Set, Len, Used. -/
import Derived.Test.YtahmnmpfjgddpaaGreatDoorRow
import Derived.Test.YtahmnmpfjgddpaaGreatDoorOrd
import Derived.Deep.RegionWith
import Derived.OrdersHeld
import Derived.Deep.OwnRows
import Derived.Deep.RegionHeld3
import Derived.Deep.AppendLies
import Derived.Deep.RegionLaw
import Derived.Deep.DrawnRows
namespace Go.Proofs.YtahmnmpfjgddpaaGreatDoor
set_option linter.unusedVariables false
set_option linter.unusedSimpArgs false
open Go.RowKit Go.Deep

theorem info27 : (Tryz.prog.info? 25).map (fun i => (i.zero, i.size, i.bytes)) = some (some (.slice none 0 0), 1, 24) := by kernel_rfl

/-- two pieces of memory have no cell in common -/
def Dj (b o l b' o' l' : Nat) : Prop := b ≠ b' ∨ o + l ≤ o' ∨ o' + l' ≤ o
theorem Dj.symm {b o l b' o' l' : Nat} (h : Dj b o l b' o' l') : Dj b' o' l' b o l := by unfold Dj at *; omega

/-- an array: its block, where it begins, its numbers -/
structure Arr where
  b : Nat
  o : Nat
  xs : List Int

def Arr.val (a : Arr) : Value := .slice (some ⟨a.b, a.o, none⟩) a.xs.length a.xs.length

/-- a block that has cells of arrays -/
structure Chunk (w : World) (S : Nat → Prop) (g : Nat) (v : Value) (b : Nat) : Prop where
  mem : S b
  neg : b ≠ g
  nev : v.ownBlock ≠ some b
  lt : b < w.heap.size
  frz : ∀ o, w.frozen? ⟨b, o, none⟩ = false

def Holds (w : World) (b o : Nat) (xs : List Int) : Prop := ∀ j x, xs[j]? = some x → w.cell? ⟨b, o + j, none⟩ = some (.int .i64 x)

/-- the memory of a heap at block g: quota, cells used, the row of arrays, the arrays, the free piece -/
structure HSt (w : World) (S : Nat → Prop) (g : Nat) (q used : Int) (v : Value) (ars : List Arr) (F : Value) (fb fo fl : Nat) : Prop where
  hg : S g
  blk : w.heap[g]? = some (.cells #[.int .i64 q, F, .int .i64 used, v] 95 (0, 0))
  own : w.ownsRow 0 25 1 v ars.length (ars.map Arr.val)
  ne : ∀ k, v.ownBlock = some k → S k ∧ k ≠ g
  fr : (fl = 0 ∧ ∃ A, F = .slice A 0 0) ∨ (0 < fl ∧ F = .slice (some ⟨fb, fo, none⟩) fl fl ∧ Chunk w S g v fb ∧ Holds w fb fo (List.replicate fl 0) ∧ ∀ a ∈ ars, Dj a.b a.o a.xs.length fb fo fl)
  flm : fl ≤ 4096
  arr : ∀ a ∈ ars, 0 < a.xs.length ∧ a.xs.length ≤ 4096 ∧ Chunk w S g v a.b ∧ Holds w a.b a.o a.xs
  dis : ars.Pairwise fun a a' => Dj a.b a.o a.xs.length a'.b a'.o a'.xs.length

/-- how many cells some arrays have -/
def total (xss : List (List Int)) : Int := (xss.map fun xs => (xs.length : Int)).sum
/-- a heap at block g: its quota, its arrays -/
def HeapIs (w : World) (S : Nat → Prop) (g : Nat) (q : Int) (xss : List (List Int)) : Prop :=
  ∃ v ars F fb fo fl, HSt w S g q (total xss) v ars F fb fo fl ∧ xss = ars.map Arr.xs ∧ total xss ≤ q ∧ q ≤ 1048576

theorem Chunk.mono {w : World} {S S' : Nat → Prop} {g : Nat} {v : Value} {b : Nat} (h : Chunk w S g v b) (hS : ∀ k, S k → S' k) : Chunk w S' g v b := ⟨hS _ h.mem, h.neg, h.nev, h.lt, h.frz⟩
theorem HSt.mono {w : World} {S S' : Nat → Prop} {g : Nat} {q used : Int} {v : Value} {ars : List Arr} {F : Value} {fb fo fl : Nat} (h : HSt w S g q used v ars F fb fo fl) (hS : ∀ k, S k → S' k) : HSt w S' g q used v ars F fb fo fl :=
  ⟨hS _ h.hg, h.blk, h.own, fun k hk => ⟨hS _ (h.ne k hk).1, (h.ne k hk).2⟩, h.fr.imp id fun ⟨a, b, c, d, e⟩ => ⟨a, b, c.mono hS, d, e⟩, h.flm, fun a ha => ⟨(h.arr a ha).1, (h.arr a ha).2.1, (h.arr a ha).2.2.1.mono hS, (h.arr a ha).2.2.2⟩, h.dis⟩
theorem HeapIs.mono {w : World} {S S' : Nat → Prop} {g : Nat} {q : Int} {xss : List (List Int)} (h : HeapIs w S g q xss) (hS : ∀ k, S k → S' k) : HeapIs w S' g q xss := by
  obtain ⟨v, ars, F, fb, fo, fl, h, e, l⟩ := h
  exact ⟨v, ars, F, fb, fo, fl, h.mono hS, e, l⟩

theorem Chunk.kept {w w' : World} {S T : Nat → Prop} {g : Nat} {v : Value} {b : Nat} (h : Chunk w S g v b) (hc : Chg T w w') (hn : ∀ k, S k → ¬ T k) : Chunk w' S g v b :=
  ⟨h.mem, h.neg, h.nev, Nat.lt_of_lt_of_le h.lt hc.size, fun o => (hc.frozen (p := ⟨b, o, none⟩) h.lt (hn _ h.mem)).trans (h.frz o)⟩
theorem Holds.kept {w w' : World} {T : Nat → Prop} {b o : Nat} {xs : List Int} (h : Holds w b o xs) (hc : Chg T w w') (hn : ¬ T b) : Holds w' b o xs :=
  fun j x hx => hc.cell (h j x hx) hn
theorem HSt.kept {w w' : World} {S T : Nat → Prop} {g : Nat} {q used : Int} {v : Value} {ars : List Arr} {F : Value} {fb fo fl : Nat} (h : HSt w S g q used v ars F fb fo fl) (hc : Chg T w w') (hn : ∀ k, S k → ¬ T k) : HSt w' S g q used v ars F fb fo fl :=
  ⟨h.hg, hc.heap h.blk (hn _ h.hg), ownsRow_kept h.own hc (fun k hk => hn _ (h.ne k hk).1), h.ne,
    h.fr.imp id fun ⟨a, b, c, d, e⟩ => ⟨a, b, c.kept hc hn, d.kept hc (hn _ c.mem), e⟩, h.flm,
    fun a ha => ⟨(h.arr a ha).1, (h.arr a ha).2.1, (h.arr a ha).2.2.1.kept hc hn, (h.arr a ha).2.2.2.kept hc (hn _ (h.arr a ha).2.2.1.mem)⟩, h.dis⟩
/-- what is done elsewhere does not matter -/
theorem HeapIs.kept {w w' : World} {S T : Nat → Prop} {g : Nat} {q : Int} {xss : List (List Int)} (h : HeapIs w S g q xss) (hc : Chg T w w') (hn : ∀ k, S k → ¬ T k) : HeapIs w' S g q xss := by
  obtain ⟨v, ars, F, fb, fo, fl, h, e, l⟩ := h
  exact ⟨v, ars, F, fb, fo, fl, h.kept hc hn, e, l⟩

theorem HSt.cells {w : World} {S : Nat → Prop} {g : Nat} {q used : Int} {v : Value} {ars : List Arr} {F : Value} {fb fo fl : Nat} (h : HSt w S g q used v ars F fb fo fl) :
    w.cell? ⟨g, 0, none⟩ = some (.int .i64 q) ∧ w.cell? ⟨g, 1, none⟩ = some F ∧ w.cell? ⟨g, 2, none⟩ = some (.int .i64 used) ∧ w.cell? ⟨g, 3, none⟩ = some v ∧
    w.frozen? ⟨g, 0, none⟩ = false ∧ w.frozen? ⟨g, 1, none⟩ = false ∧ w.frozen? ⟨g, 2, none⟩ = false ∧ w.frozen? ⟨g, 3, none⟩ = false :=
  ⟨cell_of_block h.blk 0, cell_of_block h.blk 1, cell_of_block h.blk 2, cell_of_block h.blk 3, frozen_of_block h.blk 0, frozen_of_block h.blk 1, frozen_of_block h.blk 2, frozen_of_block h.blk 3⟩

/-! ### New -/
def clampq (q : Int) : Int := if q < 0 then 0 else if 1048576 < q then 1048576 else q
theorem HSt.new (w : World) (q : Int) : HSt (w.alloc (.cells #[.int .i64 q, .slice none 0 0, .int .i64 0, .slice none 0 0] 95)) (fun k => w.heap.size ≤ k) w.heap.size q 0 (.slice none 0 0) [] (.slice none 0 0) 0 0 0 :=
  ⟨Nat.le_refl _, heap_new _ _, World.ownsRow_nil _ _ _ _, (fun k hk => by cases hk), .inl ⟨rfl, none, rfl⟩, by omega, (fun a ha => by cases ha), .nil⟩

set_option maxRecDepth 100000 in
theorem heap_new_any (q : Int) (w : World) :
    Calls Tryz.prog 22 #[.int .i64 q] w fun e w' => ∃ g, e = .returned (.pointer (some ⟨g, 0, none⟩)) ∧ HeapIs w' (fun k => w.heap.size ≤ k) g (clampq q) [] ∧ Chg (fun _ => False) w w' := by
  go_enter Tryz.func22, Tryz.ntmps22
  go_wp2
  all_goals
    go_ret
    refine ⟨w.heap.size, rfl, ⟨.slice none 0 0, [], .slice none 0 0, 0, 0, 0, ?_, rfl, by unfold clampq total; simp; repeat' split <;> omega, by unfold clampq; repeat' split <;> omega⟩, (Chg.refl _ _).alloc _⟩
  · rw [show clampq q = 0 by unfold clampq; rw [if_pos ‹_›]]; exact HSt.new w 0
  · rw [show clampq q = 1048576 by unfold clampq; rw [if_neg (by omega), if_pos (by omega)]]; exact HSt.new w 1048576
  · rw [show clampq q = q by unfold clampq; rw [if_neg (by omega), if_neg (by omega)]]; exact HSt.new w q

/-! ### array -/
set_option maxRecDepth 100000 in
theorem array_in (g : Nat) (id : Nat) (b n c : Nat) (A : Value) (w : World) (c3 : w.cell? ⟨g, 3, none⟩ = some (.slice (some ⟨b, 0, none⟩) n c))
    (h1 : id < n) (hn : n ≤ 9223372036854775807) (ce : w.cell? ⟨b, id, none⟩ = some A) :
    Calls Tryz.prog 118 #[.pointer (some ⟨g, 0, none⟩), .int .i64 id] w fun e w' => e = .returned A ∧ w = w' := by
  go_enter Tryz.func118, Tryz.ntmps118
  go_wp2
  go_ret
  exact ⟨rfl, rfl⟩

set_option maxRecDepth 100000 in
theorem array_out (g : Nat) (id : Int) (A : Option Addr) (n c : Nat) (w : World) (c3 : w.cell? ⟨g, 3, none⟩ = some (.slice A n c)) (h1 : id < 0 ∨ n ≤ id) :
    Calls Tryz.prog 118 #[.pointer (some ⟨g, 0, none⟩), .int .i64 id] w fun e w' => e = .returned (.slice none 0 0) ∧ w = w' := by
  rcases h1 with h1 | h1
  · go_enter Tryz.func118, Tryz.ntmps118
    go_wp2
    go_ret
    exact ⟨rfl, rfl⟩
  · have h2 : 0 ≤ id := by omega
    go_enter Tryz.func118, Tryz.ntmps118
    go_wp2
    go_ret
    exact ⟨rfl, rfl⟩

/-- the array of a number: its value -/
def arrv (ars : List Arr) (id : Int) : Value := if 0 ≤ id then ((ars[id.toNat]?).map Arr.val).getD (.slice none 0 0) else .slice none 0 0

theorem array_any {w : World} {S : Nat → Prop} {g : Nat} {q used : Int} {v : Value} {ars : List Arr} {F : Value} {fb fo fl : Nat} (h : HSt w S g q used v ars F fb fo fl) (id : Int) :
    Calls Tryz.prog 118 #[.pointer (some ⟨g, 0, none⟩), .int .i64 id] w fun e w' => e = .returned (arrv ars id) ∧ w = w' := by
  obtain ⟨_, _, _, c3, _⟩ := h.cells
  by_cases hi : 0 ≤ id ∧ id < ars.length
  · obtain ⟨k, rfl⟩ := Int.eq_ofNat_of_zero_le hi.1
    have hk : k < ars.length := by omega
    obtain ⟨b, cap, rfl, h1, h2, hc⟩ := ownsRow_get h.own k hk
    have e : arrv ars (k : Int) = (ars[k]'hk).val := by
      unfold arrv
      rw [if_pos (by omega)]
      simp [hk]
    rw [e]
    unfold maxLen at h2
    exact array_in g k b ars.length cap _ w c3 hk (by omega) (hc _ (by simp [hk]))
  · obtain ⟨h1, A, c, rfl⟩ := ownsRow_slice h.own
    have e : arrv ars id = .slice none 0 0 := by
      unfold arrv
      split
      · rw [List.getElem?_eq_none (by omega)]; rfl
      · rfl
    rw [e]
    exact array_out g id A _ c w c3 (by omega)

/-! ### cell, Get, Len, Used -/
/-- the row of a number, if there is one: the array, and that it is one of them -/
theorem arrv_cases (ars : List Arr) (id : Int) : (∃ (k : Nat) (a : Arr), id = (k : Int) ∧ ars[k]? = some a ∧ arrv ars id = a.val) ∨ ((id < 0 ∨ ars.length ≤ id) ∧ arrv ars id = .slice none 0 0) := by
  by_cases hi : 0 ≤ id ∧ id < ars.length
  · obtain ⟨k, rfl⟩ := Int.eq_ofNat_of_zero_le hi.1
    have hk : k < ars.length := by omega
    refine .inl ⟨k, ars[k], rfl, by simp [hk], ?_⟩
    unfold arrv
    rw [if_pos (by omega)]
    simp [hk]
  · refine .inr ⟨by omega, ?_⟩
    unfold arrv
    split
    · rw [List.getElem?_eq_none (by omega)]; rfl
    · rfl


/-- what stands in a cell of an array, if there is that cell -/
def cellv (xss : List (List Int)) (id i : Int) : Option Int := if 0 ≤ id ∧ 0 ≤ i then (xss[id.toNat]?).bind (·[i.toNat]?) else none
def setv (xss : List (List Int)) (id i v : Int) : List (List Int) := if 0 ≤ id ∧ 0 ≤ i then xss.modify id.toNat (·.set i.toNat v) else xss
def lenv (xss : List (List Int)) (id : Int) : Nat := if 0 ≤ id then (xss[id.toNat]?.getD []).length else 0

set_option maxRecDepth 100000 in
theorem cell_in (g b o n : Nat) (id : Int) (i : Nat) (w : World) (hi : i < n) (hn : n ≤ 4096)
    (ha : ∀ wx, w = wx → Calls Tryz.prog 118 #[.pointer (some ⟨g, 0, none⟩), .int .i64 id] wx fun e w' => e = .returned (.slice (some ⟨b, o, none⟩) n n) ∧ w = w') :
    Calls Tryz.prog 113 #[.pointer (some ⟨g, 0, none⟩), .int .i64 id, .int .i64 i] w fun e w' => e = .returned (.pointer (some ⟨b, o + i, none⟩)) ∧ w = w' := by
  go_enter Tryz.func113, Tryz.ntmps113
  go_wp2_with ((go_at_call 118); refine (ha _ rfl).mono ?_; rintro e w' ⟨rfl, rfl⟩)
  go_ret
  exact ⟨rfl, rfl⟩

set_option maxRecDepth 100000 in
theorem cell_out (g n c : Nat) (A : Option Addr) (id i : Int) (w : World) (hi : i < 0 ∨ n ≤ i) (hn : n ≤ 4096)
    (ha : ∀ wx, w = wx → Calls Tryz.prog 118 #[.pointer (some ⟨g, 0, none⟩), .int .i64 id] wx fun e w' => e = .returned (.slice A n c) ∧ w = w') :
    Calls Tryz.prog 113 #[.pointer (some ⟨g, 0, none⟩), .int .i64 id, .int .i64 i] w fun e w' => e = .returned (.pointer none) ∧ w = w' := by
  rcases hi with hi | hi
  · go_enter Tryz.func113, Tryz.ntmps113
    go_wp2_with ((go_at_call 118); refine (ha _ rfl).mono ?_; rintro e w' ⟨rfl, rfl⟩)
    go_ret
    exact ⟨rfl, rfl⟩
  · have h0 : 0 ≤ i := by omega
    go_enter Tryz.func113, Tryz.ntmps113
    go_wp2_with ((go_at_call 118); refine (ha _ rfl).mono ?_; rintro e w' ⟨rfl, rfl⟩)
    go_ret
    exact ⟨rfl, rfl⟩

theorem cell_any {w : World} {S : Nat → Prop} {g : Nat} {q used : Int} {v : Value} {ars : List Arr} {F : Value} {fb fo fl : Nat} (h : HSt w S g q used v ars F fb fo fl) (id i : Int) :
    (∃ (k j : Nat) (a : Arr) (x : Int), id = k ∧ i = j ∧ ars[k]? = some a ∧ a.xs[j]? = some x ∧ cellv (ars.map Arr.xs) id i = some x ∧
      Calls Tryz.prog 113 #[.pointer (some ⟨g, 0, none⟩), .int .i64 id, .int .i64 i] w fun e w' => e = .returned (.pointer (some ⟨a.b, a.o + j, none⟩)) ∧ w = w') ∨
    (cellv (ars.map Arr.xs) id i = none ∧ Calls Tryz.prog 113 #[.pointer (some ⟨g, 0, none⟩), .int .i64 id, .int .i64 i] w fun e w' => e = .returned (.pointer none) ∧ w = w') := by
  have ha := array_any h id
  rcases arrv_cases ars id with ⟨k, a, rfl, hk, e⟩ | ⟨hid, e⟩
  · rw [e] at ha
    have hm := h.arr a (List.mem_of_getElem? hk)
    by_cases hi : 0 ≤ i ∧ i < a.xs.length
    · obtain ⟨j, rfl⟩ := Int.eq_ofNat_of_zero_le hi.1
      have hj : j < a.xs.length := by omega
      refine .inl ⟨k, j, a, a.xs[j], rfl, rfl, hk, by simp [hj], ?_, ?_⟩
      · unfold cellv
        rw [if_pos (by omega)]
        simp [hk, hj]
      · exact cell_in g a.b a.o a.xs.length k j w hj hm.2.1 (fun wx hx => by subst hx; exact ha)
    · refine .inr ⟨?_, cell_out g a.xs.length a.xs.length _ k i w (by omega) hm.2.1 (fun wx hx => by subst hx; exact ha)⟩
      unfold cellv
      split
      · simp [hk]; omega
      · rfl
  · rw [e] at ha
    refine .inr ⟨?_, cell_out g 0 0 none id i w (by omega) (by omega) (fun wx hx => by subst hx; exact ha)⟩
    unfold cellv
    split
    · rw [List.getElem?_eq_none (by simp; omega)]; rfl
    · rfl

set_option maxRecDepth 100000 in
theorem get_in (g b o : Nat) (id i x : Int) (w : World) (hx : w.cell? ⟨b, o, none⟩ = some (.int .i64 x))
    (ha : ∀ wx, w = wx → Calls Tryz.prog 113 #[.pointer (some ⟨g, 0, none⟩), .int .i64 id, .int .i64 i] wx fun e w' => e = .returned (.pointer (some ⟨b, o, none⟩)) ∧ w = w') :
    Calls Tryz.prog 93 #[.pointer (some ⟨g, 0, none⟩), .int .i64 id, .int .i64 i] w fun e w' => e = .returned (.tuple #[.int .i64 x, .bool true]) ∧ w = w' := by
  go_enter Tryz.func93, Tryz.ntmps93
  go_wp2_with ((go_at_call 113); refine (ha _ rfl).mono ?_; rintro e w' ⟨rfl, rfl⟩)
  go_ret2
  exact ⟨rfl, rfl⟩

set_option maxRecDepth 100000 in
theorem get_out (g : Nat) (id i : Int) (w : World)
    (ha : ∀ wx, w = wx → Calls Tryz.prog 113 #[.pointer (some ⟨g, 0, none⟩), .int .i64 id, .int .i64 i] wx fun e w' => e = .returned (.pointer none) ∧ w = w') :
    Calls Tryz.prog 93 #[.pointer (some ⟨g, 0, none⟩), .int .i64 id, .int .i64 i] w fun e w' => e = .returned (.tuple #[.int .i64 0, .bool false]) ∧ w = w' := by
  go_enter Tryz.func93, Tryz.ntmps93
  go_wp2_with ((go_at_call 113); refine (ha _ rfl).mono ?_; rintro e w' ⟨rfl, rfl⟩)
  go_ret2
  exact ⟨rfl, rfl⟩

theorem heap_get_any {w : World} {S : Nat → Prop} {g : Nat} {q : Int} {xss : List (List Int)} (h : HeapIs w S g q xss) (id i : Int) :
    Calls Tryz.prog 93 #[.pointer (some ⟨g, 0, none⟩), .int .i64 id, .int .i64 i] w fun e w' => e = .returned (.tuple #[.int .i64 ((cellv xss id i).getD 0), .bool (cellv xss id i).isSome]) ∧ w = w' := by
  obtain ⟨v, ars, F, fb, fo, fl, h, rfl, hl⟩ := h
  rcases cell_any h id i with ⟨k, j, a, x, rfl, rfl, hk, hj, hv, hc⟩ | ⟨hv, hc⟩
  · rw [hv]
    exact get_in g a.b (a.o + j) k j x w ((h.arr a (List.mem_of_getElem? hk)).2.2.2 j x hj) (fun wx hx => by subst hx; exact hc)
  · rw [hv]
    exact get_out g id i w (fun wx hx => by subst hx; exact hc)

set_option maxRecDepth 100000 in
theorem set_in (g b o : Nat) (id i x y : Int) (w : World) (hx : w.cell? ⟨b, o, none⟩ = some (.int .i64 x)) (hf : w.frozen? ⟨b, o, none⟩ = false)
    (ha : ∀ wx, w = wx → Calls Tryz.prog 113 #[.pointer (some ⟨g, 0, none⟩), .int .i64 id, .int .i64 i] wx fun e w' => e = .returned (.pointer (some ⟨b, o, none⟩)) ∧ w = w') :
    Calls Tryz.prog 92 #[.pointer (some ⟨g, 0, none⟩), .int .i64 id, .int .i64 i, .int .i64 y] w fun e w' => e = .returned (.bool true) ∧ w.setCell ⟨b, o, none⟩ (.int .i64 y) = w' := by
  go_enter Tryz.func92, Tryz.ntmps92
  go_wp2_with ((go_at_call 113); refine (ha _ rfl).mono ?_; rintro e w' ⟨rfl, rfl⟩)
  go_ret
  exact ⟨rfl, rfl⟩

set_option maxRecDepth 100000 in
theorem set_out (g : Nat) (id i y : Int) (w : World)
    (ha : ∀ wx, w = wx → Calls Tryz.prog 113 #[.pointer (some ⟨g, 0, none⟩), .int .i64 id, .int .i64 i] wx fun e w' => e = .returned (.pointer none) ∧ w = w') :
    Calls Tryz.prog 92 #[.pointer (some ⟨g, 0, none⟩), .int .i64 id, .int .i64 i, .int .i64 y] w fun e w' => e = .returned (.bool false) ∧ w = w' := by
  go_enter Tryz.func92, Tryz.ntmps92
  go_wp2_with ((go_at_call 113); refine (ha _ rfl).mono ?_; rintro e w' ⟨rfl, rfl⟩)
  go_ret
  exact ⟨rfl, rfl⟩

/-- a store into a cell of a chunk: the rest stays -/
theorem Chunk.set {w : World} {S : Nat → Prop} {g : Nat} {v : Value} {b : Nat} (h : Chunk w S g v b) (p : Addr) (u : Value) : Chunk (w.setCell p u) S g v b :=
  ⟨h.mem, h.neg, h.nev, by simpa [World.setCell] using h.lt, fun o => by rw [World.frozen?_setCell]; exact h.frz o⟩
theorem Holds.set_far {w : World} {b o : Nat} {xs : List Int} (h : Holds w b o xs) (b' p : Nat) (hne : b' ≠ b ∨ p < o ∨ o + xs.length ≤ p) (u : Value) : Holds (w.setCell ⟨b', p, none⟩ u) b o xs := fun j x hx => by
  have hj := (List.getElem?_eq_some_iff.1 hx).1
  rw [cell_set_ne u (fun e => by injection e with e1 e2; omega) rfl rfl]
  exact h j x hx
theorem Holds.set_in {w : World} {b o : Nat} {xs : List Int} (h : Holds w b o xs) (i : Nat) (hi : i < xs.length) (y : Int) : Holds (w.setCell ⟨b, o + i, none⟩ (.int .i64 y)) b o (xs.set i y) := fun j x hx => by
  by_cases e : i = j
  · subst e
    rw [List.getElem?_set_self hi] at hx
    rw [cell_set_eq (h i xs[i] (by simp [hi]))]
    simp at hx
    rw [hx]
  · rw [List.getElem?_set_ne e] at hx
    rw [cell_set_ne _ (fun e' => by injection e' with e1 e2; omega) rfl rfl]
    exact h j x hx

theorem pairwise_get {α : Type} {R : α → α → Prop} (hs : ∀ x y, R x y → R y x) {l : List α} (h : l.Pairwise R) {i j : Nat} {x y : α} (hx : l[i]? = some x) (hy : l[j]? = some y) (hne : i ≠ j) : R x y := by
  have hi := (List.getElem?_eq_some_iff.1 hx)
  have hj := (List.getElem?_eq_some_iff.1 hy)
  obtain ⟨hi, rfl⟩ := hi
  obtain ⟨hj, rfl⟩ := hj
  rcases Nat.lt_or_ge i j with hlt | hge
  · exact List.pairwise_iff_getElem.1 h i j hi hj hlt
  · exact hs _ _ (List.pairwise_iff_getElem.1 h j i hj hi (by omega))

theorem HSt.set {w : World} {S : Nat → Prop} {g : Nat} {q used : Int} {v : Value} {ars : List Arr} {F : Value} {fb fo fl : Nat} (h : HSt w S g q used v ars F fb fo fl) {k j : Nat} {a : Arr} (hk : ars[k]? = some a) (hj : j < a.xs.length) (y : Int) :
    HSt (w.setCell ⟨a.b, a.o + j, none⟩ (.int .i64 y)) S g q used v (ars.set k { a with xs := a.xs.set j y }) F fb fo fl := by
  have hm := h.arr a (List.mem_of_getElem? hk)
  have hkl := (List.getElem?_eq_some_iff.1 hk).1
  have hka := (List.getElem?_eq_some_iff.1 hk).2
  have hC := hm.2.2.1
  have hc : Chg (fun i => i = a.b) w (w.setCell ⟨a.b, a.o + j, none⟩ (.int .i64 y)) := Chg.set_cell ⟨a.b, a.o + j, none⟩ _
  have hmem : ∀ c ∈ ars.set k { a with xs := a.xs.set j y }, ∃ (i : Nat) (c0 : Arr), ars[i]? = some c0 ∧ c.b = c0.b ∧ c.o = c0.o ∧ c.xs.length = c0.xs.length ∧ ((i = k ∧ c = { a with xs := a.xs.set j y }) ∨ (i ≠ k ∧ c = c0)) := by
    intro c hc
    obtain ⟨i, hi⟩ := List.mem_iff_getElem?.1 hc
    by_cases e : k = i
    · subst e
      rw [List.getElem?_set_self hkl] at hi
      injection hi with hi
      subst hi
      exact ⟨k, a, hk, rfl, rfl, by simp, .inl ⟨rfl, rfl⟩⟩
    · rw [List.getElem?_set_ne e] at hi
      exact ⟨i, c, hi, rfl, rfl, rfl, .inr ⟨fun x => e x.symm, rfl⟩⟩
  refine ⟨h.hg, hc.heap h.blk (fun e => hC.neg e.symm), ?_, h.ne, ?_, h.flm, ?_, ?_⟩
  · have := ownsRow_kept h.own hc (fun i hi e => hC.nev (by rw [hi, e]))
    rw [List.length_set]
    have e2 : (ars.set k { a with xs := a.xs.set j y }).map Arr.val = ars.map Arr.val := by
      rw [List.map_set]
      apply List.ext_getElem?
      intro i
      by_cases e : k = i
      · subst e
        rw [List.getElem?_set_self (by simpa using hkl)]
        simp [hk, Arr.val]
      · rw [List.getElem?_set_ne e]
    rw [e2]
    exact this
  · refine h.fr.imp id fun ⟨f0, f1, f2, f3, f4⟩ => ⟨f0, f1, f2.set _ _, ?_, ?_⟩
    · have := f4 a (List.mem_of_getElem? hk)
      refine f3.set_far _ _ ?_ _
      simp only [List.length_replicate]
      unfold Dj at this
      omega
    · intro c hc
      obtain ⟨i, c0, h1, h2, h3, h4, _⟩ := hmem c hc
      rw [h2, h3, h4]
      exact f4 c0 (List.mem_of_getElem? h1)
  · intro c hc
    obtain ⟨i, c0, h1, h2, h3, h4, h5⟩ := hmem c hc
    have hm0 := h.arr c0 (List.mem_of_getElem? h1)
    rcases h5 with ⟨rfl, rfl⟩ | ⟨hne, rfl⟩
    · refine ⟨by simpa using hm.1, by simpa using hm.2.1, hC.set _ _, ?_⟩
      exact hm.2.2.2.set_in j hj y
    · refine ⟨hm0.1, hm0.2.1, hm0.2.2.1.set _ _, ?_⟩
      have hd := pairwise_get (fun x y hxy => Dj.symm hxy) h.dis h1 hk hne
      refine hm0.2.2.2.set_far _ _ ?_ _
      unfold Dj at hd
      omega
  · rw [List.pairwise_iff_getElem]
    intro i1 i2 h1 h2 hlt
    obtain ⟨j1, c1, q1, q2, q3, q4, q5⟩ := hmem _ (List.getElem_mem h1)
    have g1 : ∀ (i : Nat) (hi : i < (ars.set k { a with xs := a.xs.set j y }).length), ∃ c0, ars[i]? = some c0 ∧ (ars.set k { a with xs := a.xs.set j y })[i].b = c0.b ∧ (ars.set k { a with xs := a.xs.set j y })[i].o = c0.o ∧ (ars.set k { a with xs := a.xs.set j y })[i].xs.length = c0.xs.length := by
      intro i hi
      rw [List.length_set] at hi
      by_cases e : k = i
      · subst e
        exact ⟨a, hk, by simp [List.getElem_set_self], by simp [List.getElem_set_self], by simp [List.getElem_set_self]⟩
      · exact ⟨ars[i], by simp [hi], by simp [List.getElem_set_ne e], by simp [List.getElem_set_ne e], by simp [List.getElem_set_ne e]⟩
    obtain ⟨c1, e1, e2, e3, e4⟩ := g1 i1 h1
    obtain ⟨c2, e5, e6, e7, e8⟩ := g1 i2 h2
    rw [e2, e3, e4, e6, e7, e8]
    exact pairwise_get (fun x y hxy => Dj.symm hxy) h.dis e1 e5 (by omega)

theorem total_setv (xss : List (List Int)) (id i y : Int) : total (setv xss id i y) = total xss := by
  unfold total setv
  split
  · congr 1
    apply List.ext_getElem?
    intro k
    simp only [List.getElem?_map, List.getElem?_modify]
    cases xss[k]? with
    | none => rfl
    | some xs => by_cases e : id.toNat = k <;> simp [e]
  · rfl
theorem heap_set_any {w : World} {S : Nat → Prop} {g : Nat} {q : Int} {xss : List (List Int)} (h : HeapIs w S g q xss) (id i y : Int) :
    Calls Tryz.prog 92 #[.pointer (some ⟨g, 0, none⟩), .int .i64 id, .int .i64 i, .int .i64 y] w fun e w' => e = .returned (.bool (cellv xss id i).isSome) ∧ HeapIs w' S g q (setv xss id i y) ∧ Chg S w w' := by
  obtain ⟨v, ars, F, fb, fo, fl, h, rfl, hl⟩ := h
  rcases cell_any h id i with ⟨k, j, a, x, rfl, rfl, hk, hj, hv, hc⟩ | ⟨hv, hc⟩
  · rw [hv]
    have hm := h.arr a (List.mem_of_getElem? hk)
    have hjl := (List.getElem?_eq_some_iff.1 hj).1
    refine (set_in g a.b (a.o + j) k j x y w (hm.2.2.2 j x hj) (hm.2.2.1.frz _) (fun wx hx => by subst hx; exact hc)).mono ?_
    rintro e w' ⟨rfl, rfl⟩
    have hT := total_setv (ars.map Arr.xs) k j y
    refine ⟨rfl, ⟨v, _, F, fb, fo, fl, by rw [hT]; exact h.set hk hjl y, ?_, by rw [hT]; exact hl⟩, (Chg.set_cell _ _).mono (fun i _ e => by rw [e]; exact hm.2.2.1.mem)⟩
    unfold setv
    rw [if_pos (by omega)]
    simp only [Int.toNat_natCast]
    apply List.ext_getElem?
    intro i
    rw [List.getElem?_modify]
    by_cases e : k = i
    · subst e
      simp [hk, (List.getElem?_eq_some_iff.1 hk).1, (List.getElem?_eq_some_iff.1 hk).2]
    · simp [e]
  · rw [hv]
    refine (set_out g id i y w (fun wx hx => by subst hx; exact hc)).mono ?_
    rintro e w' ⟨rfl, rfl⟩
    have hT := total_setv (ars.map Arr.xs) id i y
    refine ⟨rfl, ⟨v, ars, F, fb, fo, fl, by rw [hT]; exact h, ?_, by rw [hT]; exact hl⟩, Chg.refl _ _⟩
    unfold setv
    split
    · rename_i hp
      apply List.ext_getElem?
      intro t
      rw [List.getElem?_modify]
      split
      · rename_i e
        subst e
        unfold cellv at hv
        rw [if_pos hp] at hv
        cases hh : (ars.map Arr.xs)[id.toNat]? with
        | none => rfl
        | some xs =>
          rw [hh] at hv
          have hv : xs[i.toNat]? = none := hv
          show some (xs.set i.toNat y) = some xs
          rw [List.set_eq_of_length_le (List.getElem?_eq_none_iff.1 hv)]
      · simp
    · rfl

/-! ### piece -/
theorem mk4096 : ∀ W : World, (Instr.makeSlice 25 (.int .i64 4096) (.int .i64 4096)).run Tryz.prog W = .ok (.slice (some ⟨W.heap.size, 0, none⟩) 4096 4096) (W.alloc (.cells (madeCells #[.int .i64 0] 4096) 2)) := by
  intro W
  exact run_make_row' 25 2 (.int .i64 0) 8 Tryz.underlying25 (by kernel_rfl) rfl .i64 .i64 4096 (by omega) (by omega) W

set_option maxRecDepth 100000 in
theorem piece_old (g m b o l : Nat) (w : World) (c1 : w.cell? ⟨g, 1, none⟩ = some (.slice (some ⟨b, o, none⟩) l l)) (f1 : w.frozen? ⟨g, 1, none⟩ = false) (hl : l ≤ 4096) (hm : m < l) :
    Calls Tryz.prog 112 #[.pointer (some ⟨g, 0, none⟩), .int .i64 m] w fun e w' => e = .returned (.slice (some ⟨b, o, none⟩) m m) ∧ w.setCell ⟨g, 1, none⟩ (.slice (some ⟨b, o + m, none⟩) (l - m) (l - m)) = w' := by
  go_enter Tryz.func112, Tryz.ntmps112
  go_wp2
  go_ret
  exact ⟨rfl, rfl⟩

set_option maxRecDepth 100000 in
theorem piece_all (g b o l : Nat) (w : World) (c1 : w.cell? ⟨g, 1, none⟩ = some (.slice (some ⟨b, o, none⟩) l l)) (f1 : w.frozen? ⟨g, 1, none⟩ = false) (hl : l ≤ 4096) :
    Calls Tryz.prog 112 #[.pointer (some ⟨g, 0, none⟩), .int .i64 l] w fun e w' => e = .returned (.slice (some ⟨b, o, none⟩) l l) ∧ ∃ A, w.setCell ⟨g, 1, none⟩ (.slice A 0 0) = w' := by
  go_enter Tryz.func112, Tryz.ntmps112
  go_wp2
  go_ret
  exact ⟨rfl, _, rfl⟩

set_option maxRecDepth 100000 in
theorem piece_new (g m l : Nat) (A : Option Addr) (w : World) (hg : g < w.heap.size) (c1 : w.cell? ⟨g, 1, none⟩ = some (.slice A l l)) (f1 : w.frozen? ⟨g, 1, none⟩ = false) (hl : l < m) (hm : m < 4096) :
    Calls Tryz.prog 112 #[.pointer (some ⟨g, 0, none⟩), .int .i64 m] w fun e w' => e = .returned (.slice (some ⟨w.heap.size, 0, none⟩) m m) ∧
      ((w.setCell ⟨g, 1, none⟩ (.slice (some ⟨w.heap.size, 0, none⟩) 4096 4096)).setCell ⟨g, 1, none⟩ (.slice (some ⟨w.heap.size, m, none⟩) (4096 - m) (4096 - m))).alloc (.cells (madeCells #[.int .i64 0] 4096) 2) = w' := by
  have hmk := mk4096
  go_enter Tryz.func112, Tryz.ntmps112
  go_wp2
  go_ret
  exact ⟨rfl, rfl⟩

set_option maxRecDepth 100000 in
theorem piece_newall (g l : Nat) (A : Option Addr) (w : World) (hg : g < w.heap.size) (c1 : w.cell? ⟨g, 1, none⟩ = some (.slice A l l)) (f1 : w.frozen? ⟨g, 1, none⟩ = false) (hl : l < 4096) :
    Calls Tryz.prog 112 #[.pointer (some ⟨g, 0, none⟩), .int .i64 4096] w fun e w' => e = .returned (.slice (some ⟨w.heap.size, 0, none⟩) 4096 4096) ∧
      ∃ A, ((w.setCell ⟨g, 1, none⟩ (.slice (some ⟨w.heap.size, 0, none⟩) 4096 4096)).setCell ⟨g, 1, none⟩ (.slice A 0 0)).alloc (.cells (madeCells #[.int .i64 0] 4096) 2) = w' := by
  have hmk := mk4096
  go_enter Tryz.func112, Tryz.ntmps112
  go_wp2
  go_ret
  exact ⟨rfl, _, rfl⟩

theorem Chunk.keptg {w w' : World} {S S' : Nat → Prop} {g : Nat} {v : Value} {b : Nat} (h : Chunk w S g v b) (hc : Chg (fun k => k = g) w w') (hS : ∀ k, S k → S' k) : Chunk w' S' g v b :=
  ⟨hS _ h.mem, h.neg, h.nev, Nat.lt_of_lt_of_le h.lt hc.size, fun o => (hc.frozen (p := ⟨b, o, none⟩) h.lt h.neg).trans (h.frz o)⟩
theorem HSt.turn {w w' : World} {S S' : Nat → Prop} {g : Nat} {q used : Int} {v : Value} {ars : List Arr} {F : Value} {fb fo fl : Nat} (h : HSt w S g q used v ars F fb fo fl) (hc : Chg (fun k => k = g) w w') (hS : ∀ k, S k → S' k)
    {used' : Int} {F' : Value} {fb' fo' fl' : Nat} (hb : w'.heap[g]? = some (.cells #[.int .i64 q, F', .int .i64 used', v] 95 (0, 0)))
    (hf : (fl' = 0 ∧ ∃ A, F' = .slice A 0 0) ∨ (0 < fl' ∧ F' = .slice (some ⟨fb', fo', none⟩) fl' fl' ∧ Chunk w' S' g v fb' ∧ Holds w' fb' fo' (List.replicate fl' 0) ∧ ∀ a ∈ ars, Dj a.b a.o a.xs.length fb' fo' fl')) (hl : fl' ≤ 4096) :
    HSt w' S' g q used' v ars F' fb' fo' fl' :=
  ⟨hS _ h.hg, hb, ownsRow_kept h.own hc (fun k hk => (h.ne k hk).2), fun k hk => ⟨hS _ (h.ne k hk).1, (h.ne k hk).2⟩, hf, hl,
    fun a ha => ⟨(h.arr a ha).1, (h.arr a ha).2.1, (h.arr a ha).2.2.1.keptg hc hS, (h.arr a ha).2.2.2.kept hc (h.arr a ha).2.2.1.neg⟩, h.dis⟩

/-- a new piece of noughts that nobody has -/
structure Piece (w : World) (S : Nat → Prop) (g : Nat) (v : Value) (ars : List Arr) (fb fo fl b o m : Nat) : Prop where
  chunk : Chunk w S g v b
  holds : Holds w b o (List.replicate m 0)
  dis : ∀ a ∈ ars, Dj a.b a.o a.xs.length b o m
  disf : 0 < fl → Dj b o m fb fo fl

theorem Holds.part {w : World} {b o n : Nat} (h : Holds w b o (List.replicate n 0)) (k m : Nat) (hk : k + m ≤ n) : Holds w b (o + k) (List.replicate m 0) := fun j x hx => by
  have hj := (List.getElem?_eq_some_iff.1 hx).1
  have hx2 := (List.getElem?_eq_some_iff.1 hx).2
  simp at hj hx2
  have := h (k + j) 0 (by rw [List.getElem?_replicate]; rw [if_pos (by omega)])
  rw [← hx2, Nat.add_assoc]
  exact this

theorem Holds.made {w : World} {b n : Nat} {t : TypeId} (h : w.heap[b]? = some (.cells (madeCells #[.int .i64 0] n) t (0, 0))) : Holds w b 0 (List.replicate n 0) := fun j x hx => by
  have hj := (List.getElem?_eq_some_iff.1 hx).1
  have hx2 := (List.getElem?_eq_some_iff.1 hx).2
  simp at hj hx2
  rw [cell_of_block h, ← Array.getElem?_toList, toList_madeCells_one, ← hx2, Nat.zero_add, List.getElem?_replicate, if_pos hj]

theorem HSt.lt_size {w : World} {S : Nat → Prop} {g : Nat} {q used : Int} {v : Value} {ars : List Arr} {F : Value} {fb fo fl : Nat} (h : HSt w S g q used v ars F fb fo fl) : g < w.heap.size ∧ (∀ k, v.ownBlock = some k → k < w.heap.size) ∧ (∀ a ∈ ars, a.b < w.heap.size) :=
  ⟨lt_of_heap h.blk, fun k hk => (h.own.lt k hk).2, fun a ha => (h.arr a ha).2.2.1.lt⟩

theorem piece_any {w : World} {S : Nat → Prop} {g : Nat} {q used : Int} {v : Value} {ars : List Arr} {F : Value} {fb fo fl : Nat} (h : HSt w S g q used v ars F fb fo fl) (m : Nat) (h0 : 0 < m) (hm : m ≤ 4096) :
    Calls Tryz.prog 112 #[.pointer (some ⟨g, 0, none⟩), .int .i64 m] w fun e w' => ∃ b o F' fb' fo' fl', e = .returned (.slice (some ⟨b, o, none⟩) m m) ∧
      HSt w' (fun k => S k ∨ w.heap.size ≤ k) g q used v ars F' fb' fo' fl' ∧ Piece w' (fun k => S k ∨ w.heap.size ≤ k) g v ars fb' fo' fl' b o m ∧ Chg (fun k => k = g) w w' := by
  obtain ⟨hgl, hvl, hal⟩ := h.lt_size
  obtain ⟨_, c1, _, _, _, f1, _, _⟩ := h.cells
  have hlm := h.flm
  have hS : ∀ k, S k → S k ∨ w.heap.size ≤ k := fun k hk => .inl hk
  by_cases hlt : fl < m
  · -- a new chunk
    obtain ⟨A, hA⟩ : ∃ A, F = .slice A fl fl := by
      rcases h.fr with ⟨h1, A, h2⟩ | ⟨h1, h2, _⟩
      · exact ⟨A, by rw [h2, h1]⟩
      · exact ⟨_, h2⟩
    subst hA
    have fin : ∀ (u1 u2 : Value), ∀ W, ((w.setCell ⟨g, 1, none⟩ u1).setCell ⟨g, 1, none⟩ u2).alloc (.cells (madeCells #[.int .i64 0] 4096) 2) = W →
        Chg (fun k => k = g) w W ∧ W.heap[g]? = some (.cells #[.int .i64 q, u2, .int .i64 used, v] 95 (0, 0)) ∧ W.heap[w.heap.size]? = some (.cells (madeCells #[.int .i64 0] 4096) 2 (0, 0)) := by
      rintro u1 u2 W rfl
      refine ⟨(((Chg.refl (fun k => k = g) w).setCell (fun _ => rfl) u1).setCell (fun _ => rfl) u2).alloc _, heap_old (heap_set (heap_set h.blk 1 u1) 1 u2), ?_⟩
      have := heap_new ((w.setCell ⟨g, 1, none⟩ u1).setCell ⟨g, 1, none⟩ u2) (.cells (madeCells #[.int .i64 0] 4096) 2)
      simpa [World.setCell] using this
    have new : ∀ W, Chg (fun k => k = g) w W → W.heap[w.heap.size]? = some (.cells (madeCells #[.int .i64 0] 4096) 2 (0, 0)) → Chunk W (fun k => S k ∨ w.heap.size ≤ k) g v w.heap.size ∧ Holds W w.heap.size 0 (List.replicate 4096 0) ∧ ∀ a ∈ ars, a.b ≠ w.heap.size :=
      fun W hc hb => ⟨⟨.inr (Nat.le_refl _), by omega, fun e => by have := hvl _ e; omega, lt_of_heap hb, fun o => frozen_of_block hb o⟩, Holds.made hb, fun a ha => by have := hal a ha; omega⟩
    by_cases hme : m = 4096
    · subst hme
      refine (piece_newall g fl A w hgl c1 f1 hlt).mono ?_
      rintro e W ⟨rfl, A', hW⟩
      obtain ⟨hc, hb, hn⟩ := fin _ _ W hW
      obtain ⟨n1, n2, n3⟩ := new W hc hn
      exact ⟨w.heap.size, 0, .slice A' 0 0, 0, 0, 0, rfl, h.turn hc hS hb (.inl ⟨rfl, A', rfl⟩) (by omega), ⟨n1, n2, fun a ha => .inl (n3 a ha), fun hx => absurd hx (by omega)⟩, hc⟩
    · refine (piece_new g m fl A w hgl c1 f1 hlt (by omega)).mono ?_
      rintro e W ⟨rfl, hW⟩
      obtain ⟨hc, hb, hn⟩ := fin _ _ W hW
      obtain ⟨n1, n2, n3⟩ := new W hc hn
      exact ⟨w.heap.size, 0, _, w.heap.size, m, 4096 - m, rfl,
        h.turn hc hS hb (.inr ⟨by omega, rfl, n1, by have := n2.part m (4096 - m) (by omega); rwa [Nat.zero_add] at this, fun a ha => .inl (n3 a ha)⟩) (by omega),
        ⟨n1, by have := n2.part 0 m (by omega); rwa [Nat.zero_add] at this, fun a ha => .inl (n3 a ha), fun _ => by unfold Dj; omega⟩, hc⟩
  · rcases h.fr with ⟨h1, _⟩ | ⟨h1, rfl, h3, h4, h5⟩
    · omega
    have fin : ∀ (u : Value), ∀ W, w.setCell ⟨g, 1, none⟩ u = W → Chg (fun k => k = g) w W ∧ W.heap[g]? = some (.cells #[.int .i64 q, u, .int .i64 used, v] 95 (0, 0)) := by
      rintro u W rfl
      exact ⟨(Chg.refl (fun k => k = g) w).setCell (fun _ => rfl) u, heap_set h.blk 1 u⟩
    by_cases hme : m = fl
    · subst hme
      refine (piece_all g fb fo m w c1 f1 hlm).mono ?_
      rintro e W ⟨rfl, A', hW⟩
      obtain ⟨hc, hb⟩ := fin _ W hW
      exact ⟨fb, fo, .slice A' 0 0, 0, 0, 0, rfl, h.turn hc hS hb (.inl ⟨rfl, A', rfl⟩) (by omega), ⟨h3.keptg hc hS, h4.kept hc h3.neg, h5, fun hx => absurd hx (by omega)⟩, hc⟩
    · refine (piece_old g m fb fo fl w c1 f1 hlm (by omega)).mono ?_
      rintro e W ⟨rfl, hW⟩
      obtain ⟨hc, hb⟩ := fin _ W hW
      have h4' := h4.kept hc h3.neg
      exact ⟨fb, fo, _, fb, fo + m, fl - m, rfl,
        h.turn hc hS hb (.inr ⟨by omega, rfl, h3.keptg hc hS, h4'.part m (fl - m) (by omega), fun a ha => by have := h5 a ha; unfold Dj at *; omega⟩) (by omega),
        ⟨h3.keptg hc hS, by have := h4'.part 0 m (by omega); simpa using this, fun a ha => by have := h5 a ha; unfold Dj at *; omega, fun _ => by unfold Dj; omega⟩, hc⟩

/-! ### Make -/
set_option maxRecDepth 100000 in
theorem make_arg (g : Nat) (n : Int) (w : World) (hn : n < 1 ∨ 4096 < n) :
    Calls Tryz.prog 91 #[.pointer (some ⟨g, 0, none⟩), .int .i64 n] w fun e w' => e = .returned (.tuple #[.int .i64 0, .int .i64 1]) ∧ w = w' := by
  rcases hn with hn | hn
  · go_enter Tryz.func91, Tryz.ntmps91
    go_wp2
    go_ret2
    exact ⟨rfl, rfl⟩
  · have h1 : 1 ≤ n := by omega
    go_enter Tryz.func91, Tryz.ntmps91
    go_wp2
    go_ret2
    exact ⟨rfl, rfl⟩

set_option maxRecDepth 100000 in
theorem make_quota (g : Nat) (n q used : Int) (w : World) (h1 : 1 ≤ n) (h2 : n ≤ 4096) (h3 : 0 ≤ used) (h4 : used ≤ q) (h5 : q ≤ 1048576) (h6 : q - used < n)
    (c0 : w.cell? ⟨g, 0, none⟩ = some (.int .i64 q)) (c2 : w.cell? ⟨g, 2, none⟩ = some (.int .i64 used)) :
    Calls Tryz.prog 91 #[.pointer (some ⟨g, 0, none⟩), .int .i64 n] w fun e w' => e = .returned (.tuple #[.int .i64 0, .int .i64 9]) ∧ Chg (fun _ => False) w w' := by
  go_enter Tryz.func91, Tryz.ntmps91
  go_wp2
  go_region
  all_goals
    go_wp2
    go_ret2
    exact ⟨rfl, (Chg.refl _ _).drew⟩

theorem ownsRow_drew {w : World} {base : Nat} {e : TypeId} {size n : Nat} {v : Value} {xs : List Value} (h : w.ownsRow base e size v n xs) : w.drew.ownsRow base e size v n xs := h

/-- what is left behind piece, append and the store -/
def MadeSt (P : Nat → Nat → World → Prop) (g m : Nat) (v : Value) (n : Nat) (xs : List Value) (w' : World) : Prop :=
  ∃ b o w1 g2 cap w2, P b o w1 ∧ w2.ownsRow 0 25 1 (.slice (some ⟨g2, 0, none⟩) (n + 1) cap) (n + 1) (xs ++ [.slice (some ⟨b, o, none⟩) m m]) ∧
    (w1.alloc (.cells #[.slice (some ⟨b, o, none⟩) m m] 25)).grownBy w2 v.ownBlock ∧ (v.ownBlock = some g2 ∨ g2 = w1.heap.size + 1) ∧ g2 < w2.heap.size ∧
    w' = w2.setCell ⟨g, 3, none⟩ (.slice (some ⟨g2, 0, none⟩) (n + 1) cap)

set_option maxHeartbeats 4000000 in
set_option maxRecDepth 100000 in
theorem make_ok (P : Nat → Nat → World → Prop) (g m : Nat) (q used : Int) (v : Value) (n : Nat) (xs : List Value) (w : World) (h1 : 1 ≤ m) (h2 : m ≤ 4096) (h3 : 0 ≤ used) (h4 : used + m ≤ q) (h5 : q ≤ 1048576) (hn : n ≤ 1048576)
    (hg : g < w.heap.size) (hv : v.ownBlock ≠ some g)
    (c0 : w.cell? ⟨g, 0, none⟩ = some (.int .i64 q)) (c2 : w.cell? ⟨g, 2, none⟩ = some (.int .i64 used)) (c3 : w.cell? ⟨g, 3, none⟩ = some v) (f2 : w.frozen? ⟨g, 2, none⟩ = false)
    (hp : ∀ W, W.heap = (w.setCell ⟨g, 2, none⟩ (.int .i64 (used + m))).heap → W.os = w.os → W.tape = w.tape → W.output = w.output → Calls Tryz.prog 112 #[.pointer (some ⟨g, 0, none⟩), .int .i64 m] W fun e w' => ∃ b o, e = .returned (.slice (some ⟨b, o, none⟩) m m) ∧ P b o w')
    (hP : ∀ b o W, P b o W → g < W.heap.size ∧ W.cell? ⟨g, 3, none⟩ = some v ∧ W.frozen? ⟨g, 3, none⟩ = false ∧ W.ownsRow 0 25 1 v n xs) :
    Calls Tryz.prog 91 #[.pointer (some ⟨g, 0, none⟩), .int .i64 m] w fun e w' => e = .returned (.tuple #[.int .i64 n, .int .i64 0]) ∧ MadeSt P g m v n xs w' := by
  obtain ⟨i0, hi, hz0, hz1, hz2⟩ := info_parts info27
  have hgn := World.new_ne w ⟨g, 3, none⟩ c3
  have c3' : ∀ x, (w.setCell ⟨g, 2, none⟩ x).cell? ⟨g, 3, none⟩ = some v := fun x => (cell_set_ne x (fun e => by injection e with _ e2; omega) rfl rfl).trans c3
  go_enter Tryz.func91, Tryz.ntmps91
  go_wp2
  go_region
  go_wp2_with fail
  refine wp_region_ord (S := fun w' => w'.cell? ⟨g, 3, none⟩ = some v) (N := fun i => i != 12) (by kernel_rfl) [(0, true), (1, true), (2, true), (3, true), (4, true), (5, true), (6, true), (7, false), (8, false), (9, false), (10, true), (11, true), (12, false)] (by kernel_rfl) ?_
  have hS0 : (w.setCell ⟨g, 2, none⟩ (.int .i64 (used + m))).drew.drew.cell? ⟨g, 3, none⟩ = some v := c3' _
  iterate 7 (refine ord_look rfl hS0 rfl (by intro w hS; go_simp; with_reducible rfl) (fun c a w h => h) ?_; simp only [Act.put, List.setIfInBounds_toArray, List.set_cons_succ, List.set_cons_zero])
  refine ord_act rfl rfl (fun K hK => ?_)
  refine wp_call 112 _ _ Tryz.func112 rfl (by kernel_rfl) _ _ rfl #[.pointer (some ⟨g, 0, none⟩), .int .i64 m] (by simp [Act.eval]) (R := fun x w1 => ∃ b o, x = .slice (some ⟨b, o, none⟩) m m ∧ P b o w1) (calls_ret (hp _ rfl rfl rfl rfl) (by rintro e w1 ⟨b, o, rfl, h⟩; exact ⟨_, rfl, b, o, rfl, h⟩)) ?_
  rintro x w1 ⟨b, o, rfl, hPw⟩
  obtain ⟨hg1, k3, kf3, hown1⟩ := hP _ _ _ hPw
  refine hK _ _ ⟨fun _ => k3, ?_⟩
  clear hK K
  simp only [Act.put, List.setIfInBounds_toArray, List.set_cons_succ, List.set_cons_zero]
  refine ord_act rfl rfl (fun K hK => ?_)
  go_simp
  refine hK _ _ ⟨fun _ => cell_alloc k3 _, ?_⟩
  clear hK K
  refine ord_act rfl rfl (fun K hK => ?_)
  refine wp_append_lies _ _ _ _ rfl 0 25 i0 _ 1 24 Tryz.underlying93 hi hz0 hz1 hz2 rfl (by omega) v n xs rfl (hown1.alloc _) ⟨w1.heap.size, 0, none⟩ 1 1 [.slice (some ⟨b, o, none⟩) m m] rfl rfl
    (World.news_of_block (cs := #[.slice (some ⟨b, o, none⟩) m m]) (t := 25) (fr := (0, 0)) (heap_new w1 _)) (by simp [Value.oneCell']) (by omega) (by unfold maxLen; omega) (by omega) (by omega) (w1.heap.size + 1) (by simp) ?_
  intro g2 cap w2 hown2 hgrow hat hlt
  have k3w := (hgrow.cell_far ⟨g, 3, none⟩ (by simp; omega) (fun e => hv e.symm)).trans (cell_alloc k3 _)
  have kf3w := ((hgrow.frozen_far ⟨g, 3, none⟩ (by simp; omega) (fun e => hv e.symm)).trans (frozen_alloc hg1 _)).trans kf3
  refine hK _ _ ⟨fun _ => k3w, ?_⟩
  clear hK K
  simp only [Act.put, List.setIfInBounds_toArray, List.set_cons_succ, List.set_cons_zero]
  iterate 2 (refine ord_look rfl k3w rfl (by intro w hS; go_simp; with_reducible rfl) (fun c a w h => h) ?_; simp only [Act.put, List.setIfInBounds_toArray, List.set_cons_succ, List.set_cons_zero])
  refine ord_act rfl rfl (fun K hK => ?_)
  go_simp
  refine hK _ _ ⟨fun h => absurd h (by decide), ?_⟩
  clear hK K
  refine ord_end ?_
  have k3e := cell_set_eq k3w (.slice (some ⟨g2, 0, none⟩) (n + 1) cap)
  go_wp2
  go_ret2
  exact ⟨rfl, b, o, w1, g2, cap, w2, hPw, hown2, hgrow, hat, hlt, rfl⟩

theorem HSt.of_heap {w w' : World} (e : w'.heap = w.heap) {S : Nat → Prop} {g : Nat} {q used : Int} {v : Value} {ars : List Arr} {F : Value} {fb fo fl : Nat} (h : HSt w S g q used v ars F fb fo fl) : HSt w' S g q used v ars F fb fo fl := by
  obtain ⟨heap, t, d, os, out⟩ := w
  obtain ⟨heap', t', d', os', out'⟩ := w'
  simp only at e
  subst e
  have ck : ∀ b, Chunk ⟨heap', t, d, os, out⟩ S g v b → Chunk ⟨heap', t', d', os', out'⟩ S g v b := fun b c => ⟨c.mem, c.neg, c.nev, c.lt, c.frz⟩
  exact ⟨h.hg, h.blk, h.own, h.ne, h.fr.imp id fun ⟨a, b, c, d, e⟩ => ⟨a, b, ck _ c, d, e⟩, h.flm, fun a ha => ⟨(h.arr a ha).1, (h.arr a ha).2.1, ck _ (h.arr a ha).2.2.1, (h.arr a ha).2.2.2⟩, h.dis⟩

theorem Chunk.step {w w' : World} {S S' T : Nat → Prop} {g : Nat} {v v' : Value} {b : Nat} (h : Chunk w S g v b) (hc : Chg T w w') (hn : ¬ T b) (hS : S b → S' b) (hv : v'.ownBlock ≠ some b) : Chunk w' S' g v' b :=
  ⟨hS h.mem, h.neg, hv, Nat.lt_of_lt_of_le h.lt hc.size, fun o => (hc.frozen (p := ⟨b, o, none⟩) h.lt hn).trans (h.frz o)⟩

def makev (q : Int) (xss : List (List Int)) (n : Int) : Int × Int × List (List Int) :=
  if n < 1 ∨ 4096 < n then (0, 1, xss) else if q - total xss < n then (0, 9, xss) else (xss.length, 0, xss ++ [List.replicate n.toNat 0])

theorem total_nonneg (xss : List (List Int)) : 0 ≤ total xss := by
  unfold total
  induction xss with
  | nil => simp
  | cons x xs ih => simp only [List.map_cons, List.sum_cons]; omega
theorem total_append (xss yss : List (List Int)) : total (xss ++ yss) = total xss + total yss := by simp [total]
theorem length_le_total (xss : List (List Int)) (h : ∀ xs ∈ xss, 0 < xs.length) : (xss.length : Int) ≤ total xss := by
  unfold total
  induction xss with
  | nil => simp
  | cons x xs ih =>
    have h1 := h x (by simp)
    have h2 := ih (fun y hy => h y (by simp [hy]))
    simp only [List.map_cons, List.sum_cons, List.length_cons]
    omega

theorem heap_make_any {w : World} {S : Nat → Prop} {g : Nat} {q : Int} {xss : List (List Int)} (h : HeapIs w S g q xss) (n : Int) :
    Calls Tryz.prog 91 #[.pointer (some ⟨g, 0, none⟩), .int .i64 n] w fun e w' => e = .returned (.tuple #[.int .i64 (makev q xss n).1, .int .i64 (makev q xss n).2.1]) ∧ HeapIs w' (fun k => S k ∨ w.heap.size ≤ k) g q (makev q xss n).2.2 ∧ Chg S w w' := by
  by_cases h1 : n < 1 ∨ 4096 < n
  · unfold makev
    rw [if_pos h1]
    refine (make_arg g n w h1).mono ?_
    rintro e w' ⟨rfl, rfl⟩
    exact ⟨rfl, h.mono (fun k hk => .inl hk), Chg.refl _ _⟩
  have hh := h
  obtain ⟨v, ars, F, fb, fo, fl, h, hx, hl⟩ := h
  have h0 := total_nonneg xss
  obtain ⟨c0, _, c2, c3, _, _, f2, _⟩ := h.cells
  by_cases h2 : q - total xss < n
  · unfold makev
    rw [if_neg h1, if_pos h2]
    refine (make_quota g n q (total xss) w (by omega) (by omega) h0 hl.1 hl.2 h2 c0 c2).mono ?_
    rintro e w' ⟨rfl, hc⟩
    exact ⟨rfl, (hh.kept hc (fun _ _ x => x)).mono (fun k hk => .inl hk), hc.mono (fun _ _ x => x.elim)⟩
  unfold makev
  rw [if_neg h1, if_neg h2]
  obtain ⟨m, rfl⟩ := Int.eq_ofNat_of_zero_le (show 0 ≤ n by omega)
  obtain ⟨hgl, hvl, hal⟩ := h.lt_size
  have hlen : (xss.length : Int) ≤ total xss := length_le_total xss (fun xs hxs => by
    rw [hx] at hxs
    obtain ⟨a, ha, rfl⟩ := List.mem_map.1 hxs
    exact (h.arr a ha).1)
  have hxl : xss.length = ars.length := by rw [hx]; simp
  have hgv : v.ownBlock ≠ some g := fun e => (h.ne g e).2 rfl
  refine (make_ok (fun b o w1 => ∃ F' fb' fo' fl', HSt w1 (fun k => S k ∨ w.heap.size ≤ k) g q (total xss + m) v ars F' fb' fo' fl' ∧ Piece w1 (fun k => S k ∨ w.heap.size ≤ k) g v ars fb' fo' fl' b o m ∧ Chg (fun k => k = g) w w1)
    g m q (total xss) v ars.length (ars.map Arr.val) w (by omega) (by omega) h0 (by omega) hl.2 (by omega) hgl hgv c0 c2 c3 f2 ?_ ?_).mono ?_
  · intro W hW ho ht hu
    have hc : Chg (fun k => k = g) w W := ⟨ho, ht, hu, by rw [hW]; simp [World.setCell], fun k _ hn => by rw [hW]; exact Below.heap_setCell w ⟨g, 2, none⟩ _ k hn⟩
    have hb : W.heap[g]? = some (.cells #[.int .i64 q, F, .int .i64 (total xss + m), v] 95 (0, 0)) := by rw [hW]; exact heap_set h.blk 2 _
    have hst := h.turn hc (S' := S) (fun _ x => x) hb (h.fr.imp id fun ⟨a, b, c, d, e⟩ => ⟨a, b, c.keptg hc (fun _ x => x), d.kept hc c.neg, e⟩) h.flm
    refine (piece_any hst m (by omega) (by omega)).mono ?_
    rintro e w1 ⟨b, o, F', fb', fo', fl', rfl, h3, h4, h5⟩
    have hs : W.heap.size = w.heap.size := by rw [hW]; simp [World.setCell]
    rw [hs] at h3 h4
    exact ⟨b, o, rfl, F', fb', fo', fl', h3, h4, hc.then h5⟩
  · rintro b o W ⟨F', fb', fo', fl', h3, h4, h5⟩
    obtain ⟨_, _, _, k3, _, _, _, kf3⟩ := h3.cells
    exact ⟨h3.lt_size.1, k3, kf3, h3.own⟩
  rintro e w' ⟨rfl, b, o, w1, g2, cap, w2, ⟨F', fb', fo', fl', h3, h4, h5⟩, hown, hgrow, hat, hlt, rfl⟩
  have hc2 : Chg (fun k => v.ownBlock = some k) w1 w2 := ((Chg.refl (fun k => v.ownBlock = some k) w1).alloc _).grownBy hgrow (fun k hk _ => hk)
  have hc3 : Chg (fun k => v.ownBlock = some k ∨ k = g) w1 (w2.setCell ⟨g, 3, none⟩ (.slice (some ⟨g2, 0, none⟩) (ars.length + 1) cap)) :=
    (hc2.mono (fun _ _ x => .inl x)).setCell (fun _ => .inr rfl) _
  have hw1 := h5.size
  have hg2 : g2 ≠ g := by
    rcases hat with hat | hat
    · exact (h.ne g2 hat).2
    · omega
  have hne2 : ∀ x, x < w1.heap.size → v.ownBlock ≠ some x → g2 ≠ x := fun x hx hv => by
    rcases hat with hat | hat
    · intro e; exact hv (by rw [hat, e])
    · omega
  have hck : ∀ x, Chunk w1 (fun k => S k ∨ w.heap.size ≤ k) g v x → Chunk (w2.setCell ⟨g, 3, none⟩ (.slice (some ⟨g2, 0, none⟩) (ars.length + 1) cap)) (fun k => S k ∨ w.heap.size ≤ k) g (.slice (some ⟨g2, 0, none⟩) (ars.length + 1) cap) x := fun x hx =>
    hx.step hc3 (fun t => t.elim hx.nev hx.neg) id (fun e => hne2 x hx.lt hx.nev (Option.some.inj e))
  have hho : ∀ x o' zs, Chunk w1 (fun k => S k ∨ w.heap.size ≤ k) g v x → Holds w1 x o' zs → Holds (w2.setCell ⟨g, 3, none⟩ (.slice (some ⟨g2, 0, none⟩) (ars.length + 1) cap)) x o' zs := fun x o' zs hx hz =>
    hz.kept hc3 (fun t => t.elim hx.nev hx.neg)
  refine ⟨by rw [hxl], ⟨.slice (some ⟨g2, 0, none⟩) (ars.length + 1) cap, ars ++ [⟨b, o, List.replicate m 0⟩], F', fb', fo', fl', ?_, by rw [hx]; simp, ?_, hl.2⟩, ?_⟩
  · have hT : total (xss ++ [List.replicate ((m : Int).toNat) 0]) = total xss + m := by rw [total_append]; simp [total]
    rw [hT]
    refine ⟨.inl h.hg, ?_, ?_, ?_, ?_, h3.flm, ?_, ?_⟩
    · have hb2 : w2.heap[g]? = some (.cells #[.int .i64 q, F', .int .i64 (total xss + m), v] 95 (0, 0)) := hc2.heap h3.blk hgv
      exact heap_set hb2 3 _
    · have := ownsRow_kept hown (Chg.set_cell ⟨g, 3, none⟩ (.slice (some ⟨g2, 0, none⟩) (ars.length + 1) cap)) (fun k hk e => hg2 (by injection hk with hk; exact hk.trans e))
      simpa [Arr.val] using this
    · intro k hk
      obtain rfl : g2 = k := by injection hk
      refine ⟨?_, hg2⟩
      rcases hat with hat | hat
      · exact .inl (h.ne g2 hat).1
      · exact .inr (by omega)
    · refine h3.fr.imp id fun ⟨a1, a2, a3, a4, a5⟩ => ⟨a1, a2, hck _ a3, hho _ _ _ a3 a4, fun a ha => ?_⟩
      rcases List.mem_append.1 ha with ha | ha
      · exact a5 a ha
      · rw [List.mem_singleton] at ha
        subst ha
        simpa using h4.disf a1
    · intro a ha
      rcases List.mem_append.1 ha with ha | ha
      · obtain ⟨b1, b2, b3, b4⟩ := h3.arr a ha
        exact ⟨b1, b2, hck _ b3, hho _ _ _ b3 b4⟩
      · rw [List.mem_singleton] at ha
        subst ha
        exact ⟨by simp; omega, by simp; omega, hck _ h4.chunk, hho _ _ _ h4.chunk h4.holds⟩
    · rw [List.pairwise_append]
      refine ⟨h3.dis, List.pairwise_singleton _ _, fun a ha a' ha' => ?_⟩
      rw [List.mem_singleton] at ha'
      subst ha'
      simpa using h4.dis a ha
  · rw [total_append]
    simp [total]
    unfold total at h2
    omega
  · refine h5.trans hc3 (fun k _ e => by rw [e]; exact h.hg) (fun k hk e => ?_)
    rcases e with e | e
    · exact (h.ne k e).1
    · rw [e]; exact h.hg

/-- its blocks are there -/
theorem HeapIs.bound {w : World} {S : Nat → Prop} {g : Nat} {q : Int} {xss : List (List Int)} (h : HeapIs w S g q xss) : HeapIs w (fun k => S k ∧ k < w.heap.size) g q xss := by
  obtain ⟨v, ars, F, fb, fo, fl, h, e, l⟩ := h
  obtain ⟨h1, h2, h3⟩ := h.lt_size
  have ck : ∀ b, Chunk w S g v b → Chunk w (fun k => S k ∧ k < w.heap.size) g v b := fun b c => ⟨⟨c.mem, c.lt⟩, c.neg, c.nev, c.lt, c.frz⟩
  exact ⟨v, ars, F, fb, fo, fl, ⟨⟨h.hg, h1⟩, h.blk, h.own, fun k hk => ⟨⟨(h.ne k hk).1, h2 k hk⟩, (h.ne k hk).2⟩, h.fr.imp id fun ⟨a, b, c, d, e⟩ => ⟨a, b, ck _ c, d, e⟩, h.flm, fun a ha => ⟨(h.arr a ha).1, (h.arr a ha).2.1, ck _ (h.arr a ha).2.2.1, (h.arr a ha).2.2.2⟩, h.dis⟩, e, l⟩
end Go.Proofs.YtahmnmpfjgddpaaGreatDoor
