/- 'shown' of the laws on the heap: the small case that must be. -/
import Derived.Test.YtjoibhaohmifcaaHeap
namespace Go.Proofs.Ytjoibhaohmifcaa
set_option linter.unusedVariables false
set_option linter.unusedSimpArgs false
open Go.RowKit Go.Deep

/-- HeapIs behind a name that the walk does not open, with its calls at numbers that are known -/
theorem make_at {w : World} {S : Nat → Prop} {g : Nat} {q : Int} {xss : List (List Int)} (h : HeapIs w S g q xss) (n : Int) (a b : Int) (yss : List (List Int)) (hv : makev q xss n = (a, b, yss)) :
    Calls Try.prog 11 #[.pointer (some ⟨g, 0, none⟩), .int .i64 n] w fun e w' => e = .returned (.tuple #[.int .i64 a, .int .i64 b]) ∧ HeapIs w' (fun k => S k ∨ w.heap.size ≤ k) g q yss ∧ Chg S w w' := by
  have := heap_make_any h n
  rw [hv] at this
  exact this
theorem get_at {w : World} {S : Nat → Prop} {g : Nat} {q : Int} {xss : List (List Int)} (h : HeapIs w S g q xss) (id i : Int) (a : Int) (b : Bool) (hv : (cellv xss id i).getD 0 = a ∧ (cellv xss id i).isSome = b) :
    Calls Try.prog 15 #[.pointer (some ⟨g, 0, none⟩), .int .i64 id, .int .i64 i] w fun e w' => e = .returned (.tuple #[.int .i64 a, .bool b]) ∧ w = w' := by
  have := heap_get_any h id i
  rw [hv.1, hv.2] at this
  exact this
theorem set_at {w : World} {S : Nat → Prop} {g : Nat} {q : Int} {xss : List (List Int)} (h : HeapIs w S g q xss) (id i y : Int) (b : Bool) (yss : List (List Int)) (hv : (cellv xss id i).isSome = b ∧ setv xss id i y = yss) :
    Calls Try.prog 13 #[.pointer (some ⟨g, 0, none⟩), .int .i64 id, .int .i64 i, .int .i64 y] w fun e w' => e = .returned (.bool b) ∧ HeapIs w' S g q yss ∧ Chg S w w' := by
  have := heap_set_any h id i y
  rw [hv.1, hv.2] at this
  exact this
theorem len_at {w : World} {S : Nat → Prop} {g : Nat} {q : Int} {xss : List (List Int)} (h : HeapIs w S g q xss) (id : Int) (n : Nat) (hv : lenv xss id = n) :
    Calls Try.prog 19 #[.pointer (some ⟨g, 0, none⟩), .int .i64 id] w fun e w' => e = .returned (.int .i64 n) ∧ w = w' := by
  have := heap_len_any h id
  rw [hv] at this
  exact this
theorem used_at {w : World} {S : Nat → Prop} {g : Nat} {q : Int} {xss : List (List Int)} (h : HeapIs w S g q xss) (n : Int) (hv : total xss = n) :
    Calls Try.prog 17 #[.pointer (some ⟨g, 0, none⟩)] w fun e w' => e = .returned (.int .i64 n) ∧ w = w' := by
  have := heap_used_any h
  rw [hv] at this
  exact this

/-- the one heap of a call that began in w0; all else that was there is as it was -/
structure HB (w0 w : World) (g : Nat) (q : Int) (xss : List (List Int)) : Prop where
  is : HeapIs w (fun k => w0.heap.size ≤ k) g q xss
  bel : Below w0.heap.size w0 w

theorem HB.new {w0 w : World} (hb : Below w0.heap.size w0 w) (q q' : Int) (hq : clampq q = q') :
    Calls Try.prog 10 #[.int .i64 q] w fun e w' => ∃ g, e = .returned (.pointer (some ⟨g, 0, none⟩)) ∧ HB w0 w' g q' [] := by
  subst hq
  refine (heap_new_any q w).mono ?_
  rintro e w' ⟨g, rfl, h, hc⟩
  exact ⟨g, rfl, h.mono (fun k hk => Nat.le_trans hb.size hk), hb.trans (hc.to_below.mono hb.size)⟩
theorem HB.make {w0 w : World} {g : Nat} {q : Int} {xss : List (List Int)} (h : HB w0 w g q xss) (n : Int) (a b : Int) (yss : List (List Int)) (hv : makev q xss n = (a, b, yss)) :
    Calls Try.prog 11 #[.pointer (some ⟨g, 0, none⟩), .int .i64 n] w fun e w' => e = .returned (.tuple #[.int .i64 a, .int .i64 b]) ∧ HB w0 w' g q yss := by
  refine (make_at h.is n a b yss hv).mono ?_
  rintro e w' ⟨rfl, h1, hc⟩
  exact ⟨rfl, h1.mono (fun k hk => hk.elim id (Nat.le_trans h.bel.size)), h.bel.trans (hc.below (fun _ x => x) h.bel.size)⟩
theorem HB.set {w0 w : World} {g : Nat} {q : Int} {xss : List (List Int)} (h : HB w0 w g q xss) (id i y : Int) (b : Bool) (yss : List (List Int)) (hv : (cellv xss id i).isSome = b ∧ setv xss id i y = yss) :
    Calls Try.prog 13 #[.pointer (some ⟨g, 0, none⟩), .int .i64 id, .int .i64 i, .int .i64 y] w fun e w' => e = .returned (.bool b) ∧ HB w0 w' g q yss := by
  refine (set_at h.is id i y b yss hv).mono ?_
  rintro e w' ⟨rfl, h1, hc⟩
  exact ⟨rfl, h1, h.bel.trans (hc.below (fun _ x => x) h.bel.size)⟩
theorem HB.get {w0 w : World} {g : Nat} {q : Int} {xss : List (List Int)} (h : HB w0 w g q xss) (id i : Int) (a : Int) (b : Bool) (hv : (cellv xss id i).getD 0 = a ∧ (cellv xss id i).isSome = b) :
    Calls Try.prog 15 #[.pointer (some ⟨g, 0, none⟩), .int .i64 id, .int .i64 i] w fun e w' => e = .returned (.tuple #[.int .i64 a, .bool b]) ∧ w = w' := get_at h.is id i a b hv
theorem HB.len {w0 w : World} {g : Nat} {q : Int} {xss : List (List Int)} (h : HB w0 w g q xss) (id n : Int) (hv : (lenv xss id : Int) = n) :
    Calls Try.prog 19 #[.pointer (some ⟨g, 0, none⟩), .int .i64 id] w fun e w' => e = .returned (.int .i64 n) ∧ w = w' := by
  have := heap_len_any h.is id
  rw [hv] at this
  exact this
theorem HB.used {w0 w : World} {g : Nat} {q : Int} {xss : List (List Int)} (h : HB w0 w g q xss) (n : Int) (hv : total xss = n) :
    Calls Try.prog 17 #[.pointer (some ⟨g, 0, none⟩)] w fun e w' => e = .returned (.int .i64 n) ∧ w = w' := used_at h.is n hv

set_option maxHeartbeats 2000000 in
set_option maxRecDepth 100000 in
theorem shown_any (w : World) : Calls Try.prog 9 #[] w fun e w' => e = .returned (.bool true) ∧ Below w.heap.size w w' := by
  suffices hs : ∀ w0, Below w0.heap.size w0 w → Calls Try.prog 9 #[] w fun e w' => e = .returned (.bool true) ∧ Below w0.heap.size w0 w' from hs w (Below.refl _ _)
  intro w0 hb0
  go_enter Try.func9, Try.ntmps9
  go_wp2_with fail
  refine (HB.new hb0 5 5 (by decide)).mono ?_; rintro e w1 ⟨g, rfl, h⟩
  go_wp2_with fail
  refine (h.make 3 0 0 [[0, 0, 0]] (by decide)).mono ?_; rintro e w2 ⟨rfl, h2⟩; clear h
  go_wp2_with fail
  refine (h2.make 3 0 9 [[0, 0, 0]] (by decide)).mono ?_; rintro e w3 ⟨rfl, h3⟩; clear h2
  go_wp2_with fail
  refine (h3.make 2 1 0 [[0, 0, 0], [0, 0]] (by decide)).mono ?_; rintro e w4 ⟨rfl, h4⟩; clear h3
  go_wp2_with fail
  refine (h4.make 0 0 1 [[0, 0, 0], [0, 0]] (by decide)).mono ?_; rintro e w5 ⟨rfl, h5⟩; clear h4
  go_wp2_with fail
  refine (h5.set 1 1 7 true [[0, 0, 0], [0, 7]] (by decide)).mono ?_; rintro e w6 ⟨rfl, h6⟩; clear h5
  go_wp2_with fail
  refine (h6.set 0 3 7 false [[0, 0, 0], [0, 7]] (by decide)).mono ?_; rintro e w7 ⟨rfl, h7⟩; clear h6
  go_wp2_with fail
  refine (h7.get 1 1 7 true (by decide)).mono ?_; rintro e w8 ⟨rfl, rfl⟩
  go_wp2_with fail
  refine (h7.get 0 2 0 true (by decide)).mono ?_; rintro e w8 ⟨rfl, rfl⟩
  go_wp2_with fail
  refine (h7.get 2 0 0 false (by decide)).mono ?_; rintro e w8 ⟨rfl, rfl⟩
  go_wp2_with fail
  refine (h7.used 5 (by decide)).mono ?_; rintro e w8 ⟨rfl, rfl⟩
  go_wp2_with fail
  refine (h7.len 0 3 (by decide)).mono ?_; rintro e w8 ⟨rfl, rfl⟩
  go_wp2_with fail
  refine (h7.len (-1) 0 (by decide)).mono ?_; rintro e w8 ⟨rfl, rfl⟩
  go_wp2_with fail
  go_ret
  exact ⟨rfl, h7.bel⟩
end Go.Proofs.Ytjoibhaohmifcaa
