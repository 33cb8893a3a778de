/- verify: rows of functions; in; code.Known, Takes, Leaves, Cost; operands. -/
import Derived.Test.YtdpimkbdieafgaaDoorFn
import Derived.Test.YtdpimkbdieafgaaDoorSorts
import Derived.Test.YtdpimkbdieafgaaDoorVerMap
import Derived.BigQuiet
import Derived.Deep.CutBlock
namespace Go.Proofs.YtdpimkbdieafgaaDoor
set_option linter.unusedVariables false
set_option linter.unusedSimpArgs false
open Go.RowKit

/-- the row of functions fs, at V -/
def FnsIs (w : World) (V : Value) (fs : List FnR) : Prop :=
  (fs = [] ∧ ∃ A c, V = .slice A 0 c) ∨ ∃ b off cap, V = .slice (some ⟨b, off, none⟩) fs.length cap ∧ b < w.heap.size ∧ fs.length ≤ cap ∧ cap ≤ maxLen ∧ ∀ (j : Nat) f, fs[j]? = some f →
    ∃ A c, (w.cell? ⟨b, off + j * 5, none⟩ = some (.string f.nm) ∧ w.cell? ⟨b, off + j * 5 + 1, none⟩ = some (.int .i64 f.ps) ∧ w.cell? ⟨b, off + j * 5 + 2, none⟩ = some (.int .i64 f.vs) ∧ w.cell? ⟨b, off + j * 5 + 3, none⟩ = some (.int .i64 f.ar) ∧ w.cell? ⟨b, off + j * 5 + 4, none⟩ = some (.slice A f.l.length c)) ∧ Src w (.slice A f.l.length c) f.l.length (insCells f.l)
theorem FnsIs.keep {w w' : World} {V : Value} {fs : List FnR} (h : FnsIs w V fs) (hb : Below w.heap.size w w') : FnsIs w' V fs := by
  rcases h with h | ⟨b, off, cap, e, h1, h2, h3, h4⟩
  · exact .inl h
  · refine .inr ⟨b, off, cap, e, Nat.lt_of_lt_of_le h1 hb.size, h2, h3, fun j f hf => ?_⟩
    obtain ⟨A, c, ⟨c0, c1, c2, c3, c4⟩, hs⟩ := h4 j f hf
    have hc := Below.chg hb
    exact ⟨A, c, ⟨hc.cell c0 (fun x => x), hc.cell c1 (fun x => x), hc.cell c2 (fun x => x), hc.cell c3 (fun x => x), hc.cell c4 (fun x => x)⟩, hs.keepB hb⟩
theorem FnsIs.bound {w : World} {V : Value} {fs : List FnR} (h : FnsIs w V fs) : fs.length ≤ maxLen ∧ ∃ A c, V = .slice A fs.length c := by
  rcases h with ⟨rfl, A, c, rfl⟩ | ⟨b, off, cap, rfl, _, h2, h3, _⟩
  · exact ⟨by simp [maxLen], A, c, rfl⟩
  · exact ⟨by omega, _, _, rfl⟩
theorem FnsIs.get {w : World} {V : Value} {fs : List FnR} (h : FnsIs w V fs) (j : Nat) (hj : j < fs.length) : ∃ b off cap A c, V = .slice (some ⟨b, off, none⟩) fs.length cap ∧ b < w.heap.size ∧ fs.length ≤ cap ∧
    (w.cell? ⟨b, off + j * 5, none⟩ = some (.string fs[j].nm) ∧ w.cell? ⟨b, off + j * 5 + 1, none⟩ = some (.int .i64 fs[j].ps) ∧ w.cell? ⟨b, off + j * 5 + 2, none⟩ = some (.int .i64 fs[j].vs) ∧ w.cell? ⟨b, off + j * 5 + 3, none⟩ = some (.int .i64 fs[j].ar) ∧ w.cell? ⟨b, off + j * 5 + 4, none⟩ = some (.slice A fs[j].l.length c)) ∧ Src w (.slice A fs[j].l.length c) fs[j].l.length (insCells fs[j].l) := by
  rcases h with ⟨rfl, _⟩ | ⟨b, off, cap, e, h1, h2, h3, h4⟩
  · simp at hj
  · obtain ⟨A, c, hc, hs⟩ := h4 j fs[j] (List.getElem?_eq_getElem hj)
    exact ⟨b, off, cap, A, c, e, h1, h2, hc, hs⟩

/-! ### small functions -/
theorem known_any (op : Int) (w : World) : Calls Tryd.prog 69 #[.int .i64 op] w fun e w' => e = .returned (.bool (decide (1 ≤ op ∧ op ≤ 25))) ∧ w' = w := by
  by_cases h1 : 1 ≤ op
  · by_cases h2 : op ≤ 25
    · rw [decide_eq_true ⟨h1, h2⟩]
      go_enter Tryd.func69, Tryd.ntmps69
      go_wp2_with fail
      go_ret
      exact ⟨rfl, rfl⟩
    · rw [decide_eq_false (fun h => h2 h.2)]
      have h2' : decide (op ≤ 25) = false := decide_eq_false h2
      go_enter Tryd.func69, Tryd.ntmps69
      go_wp2_with fail
      go_ret
      exact ⟨rfl, rfl⟩
  · rw [decide_eq_false (fun h => h1 h.1)]
    have h1' : decide (1 ≤ op) = false := decide_eq_false h1
    go_enter Tryd.func69, Tryd.ntmps69
    go_wp2_with fail
    go_ret
    exact ⟨rfl, rfl⟩
theorem in_any (n a b : Int) (w : World) : Calls Tryd.prog 26 #[.int .i64 n, .int .i64 a, .int .i64 b] w fun e w' => e = .returned (.bool (decide (a ≤ n ∧ n < b))) ∧ w' = w := by
  by_cases h1 : a ≤ n
  · by_cases h2 : n < b
    · rw [decide_eq_true ⟨h1, h2⟩]
      go_enter Tryd.func26, Tryd.ntmps26
      go_wp2_with fail
      go_ret
      exact ⟨rfl, rfl⟩
    · rw [decide_eq_false (fun h => h2 h.2)]
      have h2' : decide (n < b) = false := decide_eq_false h2
      go_enter Tryd.func26, Tryd.ntmps26
      go_wp2_with fail
      go_ret
      exact ⟨rfl, rfl⟩
  · rw [decide_eq_false (fun h => h1 h.1)]
    have h1' : decide (a ≤ n) = false := decide_eq_false h1
    go_enter Tryd.func26, Tryd.ntmps26
    go_wp2_with fail
    go_ret
    exact ⟨rfl, rfl⟩
def sortAt (op : Int) : SortR := sorts.getD op.toNat ⟨ByteArray.empty, 0, 0, 0, 0⟩
def takesv (op : Int) : Int := (sortAt op).takes
def leavesv (op : Int) : Int := (sortAt op).leaves
def costv (op : Int) : Int := 1 + (sortAt op).more
theorem sortAt_some {op : Int} (h : 1 ≤ op ∧ op ≤ 25) : sorts[op.toNat]? = some (sortAt op) := by
  have hl : op.toNat < sorts.length := by have : sorts.length = 26 := rfl; omega
  unfold sortAt
  rw [List.getD_eq_getElem?_getD, List.getElem?_eq_getElem hl]
  rfl
theorem sort_all {p : SortR → Prop} [DecidablePred p] (h : ∀ i, i < 26 → p (sorts.getD i ⟨ByteArray.empty, 0, 0, 0, 0⟩)) {op : Int} (ho : 1 ≤ op ∧ op ≤ 25) : p (sortAt op) := h _ (by omega)
theorem takes_small {op : Int} (ho : 1 ≤ op ∧ op ≤ 25) : 0 ≤ takesv op ∧ takesv op ≤ 2 := sort_all (p := fun s => 0 ≤ s.takes ∧ s.takes ≤ 2) (by decide) ho
theorem leaves_small {op : Int} (ho : 1 ≤ op ∧ op ≤ 25) : 0 ≤ leavesv op ∧ leavesv op ≤ 1 := sort_all (p := fun s => 0 ≤ s.leaves ∧ s.leaves ≤ 1) (by decide) ho
theorem cost_small {op : Int} (ho : 1 ≤ op ∧ op ≤ 25) : 1 ≤ costv op ∧ costv op ≤ 20 := by
  have h : ∀ i, i < 26 → 1 ≤ i → 0 ≤ (sorts.getD i ⟨ByteArray.empty, 0, 0, 0, 0⟩).more ∧ (sorts.getD i ⟨ByteArray.empty, 0, 0, 0, 0⟩).more ≤ 19 := by decide
  have := h op.toNat (by omega) (by omega)
  unfold costv sortAt
  omega
theorem sort_f1 (nm : ByteArray) (tk lv mo ha : Int) (w : World) : (Instr.field 123 (.agg #[.string nm, .int .i64 tk, .int .i64 lv, .int .i64 mo, .int .i64 ha]) 1).run Tryd.prog w = .ok (.int .i64 tk) w := by kernel_rfl
theorem sort_f2 (nm : ByteArray) (tk lv mo ha : Int) (w : World) : (Instr.field 123 (.agg #[.string nm, .int .i64 tk, .int .i64 lv, .int .i64 mo, .int .i64 ha]) 2).run Tryd.prog w = .ok (.int .i64 lv) w := by kernel_rfl
theorem sort_f3 (nm : ByteArray) (tk lv mo ha : Int) (w : World) : (Instr.field 123 (.agg #[.string nm, .int .i64 tk, .int .i64 lv, .int .i64 mo, .int .i64 ha]) 3).run Tryd.prog w = .ok (.int .i64 mo) w := by kernel_rfl
set_option maxRecDepth 100000 in
theorem takes_any {w : World} (h : SortsIs w) (op : Int) (ho : 1 ≤ op ∧ op ≤ 25) : Calls Tryd.prog 64 #[.int .i64 op] w fun e w' => e = .returned (.int .i64 (takesv op)) ∧ Below w.heap.size w w' := by
  have C := Lib.hid (of_any h op.toNat (sortAt op) (by omega) (sortAt_some ho))
  rw [show ((op.toNat : Nat) : Int) = op by omega] at C
  unfold takesv
  generalize sortAt op = s at *
  obtain ⟨nm, tk, lv, mo, ha⟩ := s
  simp only at C
  clear h
  go_enter Tryd.func64, Tryd.ntmps64
  go_wp2_with fail
  refine C.out.mono ?_; rintro e w1 ⟨rfl, hb⟩
  have HB := Lib.hid hb
  clear hb
  have hf := sort_f1 nm tk lv mo ha w1
  go_wp2_with fail
  go_ret
  exact ⟨by rfl, HB.out⟩
set_option maxRecDepth 100000 in
theorem leaves_any {w : World} (h : SortsIs w) (op : Int) (ho : 1 ≤ op ∧ op ≤ 25) : Calls Tryd.prog 65 #[.int .i64 op] w fun e w' => e = .returned (.int .i64 (leavesv op)) ∧ Below w.heap.size w w' := by
  have C := Lib.hid (of_any h op.toNat (sortAt op) (by omega) (sortAt_some ho))
  rw [show ((op.toNat : Nat) : Int) = op by omega] at C
  unfold leavesv
  generalize sortAt op = s at *
  obtain ⟨nm, tk, lv, mo, ha⟩ := s
  simp only at C
  clear h
  go_enter Tryd.func65, Tryd.ntmps65
  go_wp2_with fail
  refine C.out.mono ?_; rintro e w1 ⟨rfl, hb⟩
  have HB := Lib.hid hb
  clear hb
  have hf := sort_f2 nm tk lv mo ha w1
  go_wp2_with fail
  go_ret
  exact ⟨by rfl, HB.out⟩
set_option maxRecDepth 100000 in
theorem cost_any {w : World} (h : SortsIs w) (op : Int) (ho : 1 ≤ op ∧ op ≤ 25) : Calls Tryd.prog 33 #[.int .i64 op] w fun e w' => e = .returned (.int .i64 (costv op)) ∧ Below w.heap.size w w' := by
  have C := Lib.hid (of_any h op.toNat (sortAt op) (by omega) (sortAt_some ho))
  rw [show ((op.toNat : Nat) : Int) = op by omega] at C
  have hc := cost_small ho
  unfold costv at hc ⊢
  generalize sortAt op = s at *
  obtain ⟨nm, tk, lv, mo, ha⟩ := s
  simp only at C
  clear h
  go_enter Tryd.func33, Tryd.ntmps33
  go_wp2_with fail
  refine C.out.mono ?_; rintro e w1 ⟨rfl, hb⟩
  have HB := Lib.hid hb
  clear hb
  have hf := sort_f3 nm tk lv mo ha w1
  go_wp2_with fail
  go_ret
  exact ⟨by first | rfl | (simp only at hc ⊢; congr 2; go_num) | (congr 2; go_num), HB.out⟩

/-! ### operands -/
/-- the operands of an instruction are right -/
def opOk (k : Nat) (f : FnR) (i : InsR) : Bool :=
  if i.op = 2 ∨ i.op = 3 then decide (0 ≤ i.a ∧ i.a < f.vs)
  else if i.op = 21 then decide (0 ≤ i.a ∧ i.a < f.vs) && decide (i.n = 0 ∨ i.n = 1)
  else if i.op = 23 ∨ i.op = 24 then decide (0 ≤ i.a ∧ i.a < f.ar)
  else if i.op = 22 then decide (0 ≤ i.a ∧ i.a < f.ar) && decide (1 ≤ i.n ∧ i.n ≤ 4096)
  else if i.op = 17 then decide (1 ≤ i.a ∧ i.a < (k : Int))
  else decide (1 ≤ i.op ∧ i.op ≤ 25)
theorem opOk_known {k : Nat} {f : FnR} {i : InsR} (h : opOk k f i = true) : 1 ≤ i.op ∧ i.op ≤ 25 := by
  unfold opOk at h
  split at h
  · omega
  split at h
  · omega
  split at h
  · omega
  split at h
  · omega
  split at h
  · omega
  · simpa using h

/-- the looker at X -/
def LookBox (w : World) (X : Nat) (k : Nat) (f : FnR) (A : Option Addr) (c : Nat) (B : Option Addr) (d : Nat) (mb cb : Nat) : Prop :=
  w.heap[X]? = some (.cells #[.slice A k c, .string f.nm, .int .i64 f.ps, .int .i64 f.vs, .int .i64 f.ar, .slice B f.l.length d, .map (some mb), .chan (some cb)] 108 (0, 0))

set_option maxHeartbeats 4000000 in
set_option maxRecDepth 100000 in
theorem operands_any {w : World} {X k : Nat} {f : FnR} {A : Option Addr} {c : Nat} {B : Option Addr} {d mb cb : Nat} (h : LookBox w X k f A c B d mb cb) (hk : k ≤ 1048576) (i : InsR) :
    Calls Tryd.prog 63 #[.pointer (some ⟨X, 0, none⟩), i.agg] w fun e w' => e = .returned (.bool (opOk k f i)) ∧ Below w.heap.size w w' := by
  have hXl : X < w.heap.size := lt_of_heap h
  have CI := Lib.hid (fun (n a b : Int) (w : World) => in_any n a b w)
  have CK := Lib.hid (fun (op : Int) (w : World) => known_any op w)
  obtain ⟨op, a, nn⟩ := i
  obtain ⟨r, hr⟩ : ∃ r, r = opOk k f ⟨op, a, nn⟩ := ⟨_, rfl⟩
  rw [← hr]
  unfold InsR.agg
  simp only
  obtain ⟨w0, hw0⟩ : ∃ w0, w0 = w.alloc (.cells #[.int .i64 op, .int .i64 a, .int .i64 nn] 44) := ⟨_, rfl⟩
  obtain ⟨P0, hP0⟩ : ∃ P0, P0 = w.heap.size := ⟨_, rfl⟩
  have hb0 : Below w.heap.size w w0 := by rw [hw0]; exact (Below.refl _ _).alloc (Nat.le_refl _) _
  have HX0 : Hid (LookBox w0 X k f A c B d mb cb) := Lib.hid (by rw [hw0]; exact ((Chg.refl (fun _ => False) _).alloc _).heap h (fun x => x))
  have hi0 : w0.heap[P0]? = some (.cells #[.int .i64 op, .int .i64 a, .int .i64 nn] 44 (0, 0)) := by rw [hw0]; exact heap_new' hP0.symm
  have HB0 := Lib.hid hb0
  have HWE := Lib.hid (And.intro hw0 hP0)
  obtain ⟨nm, ps, vs, ar, l⟩ := f
  have hx := HX0.out
  unfold LookBox at hx
  simp only at hx
  have y0 := cell_of_block hx 0
  have y3 := cell_of_block hx 3
  have y4 := cell_of_block hx 4
  have i0 := cell_of_block hi0 0
  have i1 := cell_of_block hi0 1
  have i2 := cell_of_block hi0 2
  simp at y0 y3 y4 i0 i1 i2
  clear h hw0 hP0 hb0 hx hi0 hXl
  obtain ⟨n, hn⟩ : ∃ n, n = l.length := ⟨_, rfl⟩
  have HBE : Hid (∀ m, Below w.heap.size w (w0.drewN m)) := Lib.hid (fun m => HB0.out.trans (((Chg.refl (fun _ => False) _).drewN m).below (B := w.heap.size) (fun k h => h.elim) HB0.out.size))
  by_cases h2 : op = 2 ∨ op = 3
  · have hr' : r = decide (0 ≤ a ∧ a < vs) := by rw [hr]; unfold opOk; rw [if_pos h2]
    obtain ⟨q, hq⟩ : ∃ q, q = decide (0 ≤ a ∧ a < vs) := ⟨_, rfl⟩
    rw [← hq] at hr'
    subst hr'
    clear hr
    rcases h2 with rfl | rfl
    · go_enter Tryd.func63, Tryd.ntmps63
      go_upto_region 1 with fail
      rw [← HWE.out.1, ← HWE.out.2]
      go_wp2_with fail
      go_quiet ((go_at_call 26; exact Calls.quiet_of_same (CI.out _ _ _ _)))
      go_wp2_with fail
      go_ret
      exact ⟨by rw [hq]; rfl, HBE.out _⟩
    · go_enter Tryd.func63, Tryd.ntmps63
      go_upto_region 1 with fail
      rw [← HWE.out.1, ← HWE.out.2]
      go_wp2_with fail
      go_quiet ((go_at_call 26; exact Calls.quiet_of_same (CI.out _ _ _ _)))
      go_wp2_with fail
      go_ret
      exact ⟨by rw [hq]; rfl, HBE.out _⟩
  by_cases h21 : op = 21
  · have hr' : r = (decide (0 ≤ a ∧ a < vs) && decide (nn = 0 ∨ nn = 1)) := by rw [hr]; unfold opOk; rw [if_neg h2, if_pos h21]
    clear hr
    subst h21
    clear h2
    by_cases hv : 0 ≤ a ∧ a < vs
    · rw [decide_eq_true hv, Bool.true_and] at hr'
      have HV := Lib.hid (decide_eq_true hv)
      clear hv
      have CT : Hid (∀ w, Calls Tryd.prog 26 #[.int .i64 a, .int .i64 0, .int .i64 vs] w fun e w' => e = .returned (.bool true) ∧ w' = w) := Lib.hid (fun w => by have := in_any a 0 vs w; rwa [HV.out] at this)
      by_cases hn0 : nn = 0
      · rw [decide_eq_true (.inl hn0)] at hr'
        subst hr'
        subst hn0
        go_enter Tryd.func63, Tryd.ntmps63
        go_upto_region 1 with fail
        rw [← HWE.out.1, ← HWE.out.2]
        go_wp2_with fail
        go_quiet ((go_at_call 26; exact Calls.quiet_of_same (CT.out _)))
        go_wp2_with fail
        go_ret
        exact ⟨rfl, HBE.out _⟩
      · by_cases hn1 : nn = 1
        · rw [decide_eq_true (.inr hn1)] at hr'
          subst hr'
          subst hn1
          clear hn0
          go_enter Tryd.func63, Tryd.ntmps63
          go_upto_region 1 with fail
          rw [← HWE.out.1, ← HWE.out.2]
          go_wp2_with fail
          go_quiet ((go_at_call 26; exact Calls.quiet_of_same (CT.out _)))
          go_wp2_with fail
          go_ret
          exact ⟨rfl, HBE.out _⟩
        · rw [decide_eq_false (fun h => h.elim hn0 hn1)] at hr'
          subst hr'
          have t0 : (nn == 0) = false := by rw [beq_eq_false_iff_ne]; exact hn0
          have t1 : (nn == 1) = false := by rw [beq_eq_false_iff_ne]; exact hn1
          go_enter Tryd.func63, Tryd.ntmps63
          go_upto_region 1 with fail
          rw [← HWE.out.1, ← HWE.out.2]
          go_wp2_with fail
          go_quiet ((go_at_call 26; exact Calls.quiet_of_same (CT.out _)))
          go_wp2_with fail
          go_ret
          exact ⟨rfl, HBE.out _⟩
    · rw [decide_eq_false hv, Bool.false_and] at hr'
      have HV := Lib.hid (decide_eq_false hv)
      clear hv
      subst hr'
      have CT : Hid (∀ w, Calls Tryd.prog 26 #[.int .i64 a, .int .i64 0, .int .i64 vs] w fun e w' => e = .returned (.bool false) ∧ w' = w) := Lib.hid (fun w => by have := in_any a 0 vs w; rwa [HV.out] at this)
      go_enter Tryd.func63, Tryd.ntmps63
      go_upto_region 1 with fail
      rw [← HWE.out.1, ← HWE.out.2]
      go_wp2_with fail
      go_quiet ((go_at_call 26; exact Calls.quiet_of_same (CT.out _)))
      go_wp2_with fail
      go_ret
      exact ⟨rfl, HBE.out _⟩
  by_cases h23 : op = 23 ∨ op = 24
  · have hr' : r = decide (0 ≤ a ∧ a < ar) := by rw [hr]; unfold opOk; rw [if_neg h2, if_neg h21, if_pos h23]
    obtain ⟨q, hq⟩ : ∃ q, q = decide (0 ≤ a ∧ a < ar) := ⟨_, rfl⟩
    rw [← hq] at hr'
    subst hr'
    clear hr h2 h21
    rcases h23 with rfl | rfl
    · go_enter Tryd.func63, Tryd.ntmps63
      go_upto_region 1 with fail
      rw [← HWE.out.1, ← HWE.out.2]
      go_wp2_with fail
      go_quiet ((go_at_call 26; exact Calls.quiet_of_same (CI.out _ _ _ _)))
      go_wp2_with fail
      go_ret
      exact ⟨by rw [hq]; rfl, HBE.out _⟩
    · go_enter Tryd.func63, Tryd.ntmps63
      go_upto_region 1 with fail
      rw [← HWE.out.1, ← HWE.out.2]
      go_wp2_with fail
      go_quiet ((go_at_call 26; exact Calls.quiet_of_same (CI.out _ _ _ _)))
      go_wp2_with fail
      go_ret
      exact ⟨by rw [hq]; rfl, HBE.out _⟩
  by_cases h22 : op = 22
  · have hr' : r = (decide (0 ≤ a ∧ a < ar) && decide (1 ≤ nn ∧ nn ≤ 4096)) := by rw [hr]; unfold opOk; rw [if_neg h2, if_neg h21, if_neg h23, if_pos h22]
    clear hr
    subst h22
    clear h2 h21 h23
    by_cases hv : 0 ≤ a ∧ a < ar
    · rw [decide_eq_true hv, Bool.true_and] at hr'
      have HV := Lib.hid (decide_eq_true hv)
      clear hv
      have CT : Hid (∀ w, Calls Tryd.prog 26 #[.int .i64 a, .int .i64 0, .int .i64 ar] w fun e w' => e = .returned (.bool true) ∧ w' = w) := Lib.hid (fun w => by have := in_any a 0 ar w; rwa [HV.out] at this)
      by_cases hn0 : 1 ≤ nn
      · by_cases hn1 : nn ≤ 4096
        · rw [decide_eq_true ⟨hn0, hn1⟩] at hr'
          subst hr'
          have t0 : decide (1 ≤ nn) = true := decide_eq_true hn0
          have t1 : decide (nn ≤ 4096) = true := decide_eq_true hn1
          go_enter Tryd.func63, Tryd.ntmps63
          go_upto_region 1 with fail
          rw [← HWE.out.1, ← HWE.out.2]
          go_wp2_with fail
          go_quiet ((go_at_call 26; exact Calls.quiet_of_same (CT.out _)))
          go_wp2_with fail
          go_ret
          exact ⟨rfl, HBE.out _⟩
        · rw [decide_eq_false (fun h => hn1 h.2)] at hr'
          subst hr'
          have t0 : decide (1 ≤ nn) = true := decide_eq_true hn0
          have t1 : decide (nn ≤ 4096) = false := decide_eq_false hn1
          go_enter Tryd.func63, Tryd.ntmps63
          go_upto_region 1 with fail
          rw [← HWE.out.1, ← HWE.out.2]
          go_wp2_with fail
          go_quiet ((go_at_call 26; exact Calls.quiet_of_same (CT.out _)))
          go_wp2_with fail
          go_ret
          exact ⟨rfl, HBE.out _⟩
      · rw [decide_eq_false (fun h => hn0 h.1)] at hr'
        subst hr'
        have t0 : decide (1 ≤ nn) = false := decide_eq_false hn0
        go_enter Tryd.func63, Tryd.ntmps63
        go_upto_region 1 with fail
        rw [← HWE.out.1, ← HWE.out.2]
        go_wp2_with fail
        go_quiet ((go_at_call 26; exact Calls.quiet_of_same (CT.out _)))
        go_wp2_with fail
        go_ret
        exact ⟨rfl, HBE.out _⟩
    · rw [decide_eq_false hv, Bool.false_and] at hr'
      have HV := Lib.hid (decide_eq_false hv)
      clear hv
      subst hr'
      have CT : Hid (∀ w, Calls Tryd.prog 26 #[.int .i64 a, .int .i64 0, .int .i64 ar] w fun e w' => e = .returned (.bool false) ∧ w' = w) := Lib.hid (fun w => by have := in_any a 0 ar w; rwa [HV.out] at this)
      go_enter Tryd.func63, Tryd.ntmps63
      go_upto_region 1 with fail
      rw [← HWE.out.1, ← HWE.out.2]
      go_wp2_with fail
      go_quiet ((go_at_call 26; exact Calls.quiet_of_same (CT.out _)))
      go_wp2_with fail
      go_ret
      exact ⟨rfl, HBE.out _⟩
  by_cases h17 : op = 17
  · have hr' : r = decide (1 ≤ a ∧ a < (k : Int)) := by rw [hr]; unfold opOk; rw [if_neg h2, if_neg h21, if_neg h23, if_neg h22, if_pos h17]
    obtain ⟨q, hq⟩ : ∃ q, q = decide (1 ≤ a ∧ a < (k : Int)) := ⟨_, rfl⟩
    rw [← hq] at hr'
    subst hr'
    clear hr h2 h21 h23 h22
    subst h17
    go_enter Tryd.func63, Tryd.ntmps63
    go_upto_region 1 with fail
    rw [← HWE.out.1, ← HWE.out.2]
    go_wp2_with fail
    go_quiet ((go_at_call 26; exact Calls.quiet_of_same (CI.out _ _ _ _)))
    go_wp2_with fail
    go_ret
    exact ⟨by rw [hq]; rfl, HBE.out _⟩
  have hr' : r = decide (1 ≤ op ∧ op ≤ 25) := by rw [hr]; unfold opOk; rw [if_neg h2, if_neg h21, if_neg h23, if_neg h22, if_neg h17]
  obtain ⟨q, hq⟩ : ∃ q, q = decide (1 ≤ op ∧ op ≤ 25) := ⟨_, rfl⟩
  rw [← hq] at hr'
  subst hr'
  clear hr
  have t2 : (op == 2) = false := by rw [beq_eq_false_iff_ne]; exact fun e => h2 (.inl e)
  have t3 : (op == 3) = false := by rw [beq_eq_false_iff_ne]; exact fun e => h2 (.inr e)
  have t21 : (op == 21) = false := by rw [beq_eq_false_iff_ne]; exact h21
  have t23 : (op == 23) = false := by rw [beq_eq_false_iff_ne]; exact fun e => h23 (.inl e)
  have t24 : (op == 24) = false := by rw [beq_eq_false_iff_ne]; exact fun e => h23 (.inr e)
  have t22 : (op == 22) = false := by rw [beq_eq_false_iff_ne]; exact h22
  have t17 : (op == 17) = false := by rw [beq_eq_false_iff_ne]; exact h17
  clear h2 h21 h23 h22 h17
  go_enter Tryd.func63, Tryd.ntmps63
  go_upto_region 1 with fail
  rw [← HWE.out.1, ← HWE.out.2]
  have HQ := Lib.hid hq
  clear hq
  go_wp2_with fail
  refine (CK.out op w0).mono ?_; rintro e w1 ⟨rfl, rfl⟩
  rw [← HQ.out]
  go_wp2_with fail
  go_ret
  exact ⟨rfl, HB0.out⟩
end Go.Proofs.YtdpimkbdieafgaaDoor
