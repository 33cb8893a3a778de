/- profile: what functions were called with. -/
import Derived.Test.YtgiegkacilfofabDoorKeep
import Derived.Test.YtgiegkacilfofabDoorTFns
import Derived.Deep.LoopGhost
import Derived.Deep.AppendLies
import Derived.Deep.QuietTactic
import Derived.BigQuiet
import Derived.Deep.CutBlock
namespace Go.Proofs.YtgiegkacilfofabDoor
set_option linter.unusedVariables false
set_option linter.unusedSimpArgs false
open Go.RowKit

/-- the cells of n functions: how many parameters each has, what each of its parameters was last -/
structure PCells (cur : Array Value) (n : Nat) (ps : Nat → Int) (vals : Nat → Nat → Int) : Prop where
  par : ∀ j, j < n → cur[j * 18]? = some (.int .i64 (ps j)) ∧ 0 ≤ ps j ∧ ps j ≤ 8
  calls : ∀ j, j < n → ∃ c : Int, 0 ≤ c ∧ c ≤ 1000 ∧ cur[j * 18 + 1]? = some (.int .i64 c)
  val : ∀ j, j < n → ∀ i, i < 8 → cur[j * 18 + 2 + i * 2]? = some (.int .i64 (vals j i)) ∧ ∃ t : Int, 0 ≤ t ∧ t ≤ 1000 ∧ cur[j * 18 + 2 + i * 2 + 1]? = some (.int .i64 t)
/-- a profile at p, of functions at g -/
structure ProfIs (w : World) (p g n : Nat) (ps : Nat → Int) (vals : Nat → Nat → Int) : Prop where
  ne : p ≠ g
  pos : 0 < n
  st : ∃ cap cur, w.heap[p]? = some (.cells #[.slice (some ⟨g, 0, none⟩) n cap] 89 (0, 0)) ∧ n ≤ cap ∧ cap ≤ maxLen ∧ w.heap[g]? = some (.cells cur 94 (0, 0)) ∧ PCells cur n ps vals
theorem ProfIs.kept {w w' : World} {p g n : Nat} {ps : Nat → Int} {vals : Nat → Nat → Int} {T : Nat → Prop} (h : ProfIs w p g n ps vals) (hc : Chg T w w') (hp : ¬ T p) (hg : ¬ T g) : ProfIs w' p g n ps vals := by
  obtain ⟨h1, h0, cap, cur, h2, h3, h4, h5, h6⟩ := h
  exact ⟨h1, h0, cap, cur, hc.heap h2 hp, h3, h4, hc.heap h5 hg, h6⟩
theorem cell_cur {w : World} {g : Nat} {cur : Array Value} {t : TypeId} {o : Nat} {v : Value} (h : w.heap[g]? = some (.cells cur t (0, 0))) (hv : cur[o]? = some v) : w.cell? ⟨g, o, none⟩ = some v := by rw [cell_of_block h]; exact hv
theorem set_get (cur : Array Value) (o q : Nat) (v : Value) : (cur.setIfInBounds o v)[q]? = if o = q then (if o < cur.size then some v else none) else cur[q]? := by
  rw [Array.getElem?_setIfInBounds]
theorem lt_of_get {cur : Array Value} {o : Nat} {v : Value} (h : cur[o]? = some v) : o < cur.size := (Array.getElem?_eq_some_iff.1 h).1

set_option maxRecDepth 100000 in
theorem see_any {w : World} {g o : Nat} {cur : Array Value} {v t : Int} (x : Int) (hb : w.heap[g]? = some (.cells cur 94 (0, 0))) (h0 : cur[o]? = some (.int .i64 v)) (h1 : cur[o + 1]? = some (.int .i64 t)) (ht : 0 ≤ t ∧ t ≤ 1000) :
    Calls Tryd.prog 33 #[.pointer (some ⟨g, o, none⟩), .int .i64 x] w fun e w' => e = .returned (.tuple #[]) ∧ (∃ cur', w'.heap[g]? = some (.cells cur' 94 (0, 0)) ∧ cur'[o]? = some (.int .i64 x) ∧ (∃ t' : Int, 0 ≤ t' ∧ t' ≤ 1000 ∧ cur'[o + 1]? = some (.int .i64 t')) ∧ ∀ q, q ≠ o → q ≠ o + 1 → cur'[q]? = cur[q]?) ∧ Chg (fun k => k = g) w w' := by
  have c0 := cell_cur hb h0
  have c1 := cell_cur hb h1
  have f0 := frozen_of_block hb o
  have f1 := frozen_of_block hb (o + 1)
  have l0 := lt_of_get h0
  have l1 := lt_of_get h1
  have HB := Lib.hid (And.intro hb (And.intro h0 h1))
  obtain ⟨Q, hQ⟩ : ∃ Q, (if 1000 < t + 1 then 1000 else t + 1) = Q := ⟨_, rfl⟩
  have hQ0 : 0 ≤ Q ∧ Q ≤ 1000 := by split at hQ <;> omega
  clear hb h0 h1
  by_cases hx : v = x
  · subst hx
    go_enter Tryd.func33, Tryd.ntmps33
    go_wp2
    go_end0
    refine ⟨rfl, ⟨_, heap_set HB.out.1 (o + 1) _, ?_, ⟨Q, hQ0.1, hQ0.2, ?_⟩, fun q hq hq1 => ?_⟩, Chg.set_cell (w := w) ⟨g, o + 1, none⟩ _⟩
    · rw [set_get, if_neg (by omega)]; exact HB.out.2.1
    · rw [set_get, if_pos rfl, if_pos l1]
    · rw [set_get, if_neg (fun e => hq1 e.symm)]
  · go_enter Tryd.func33, Tryd.ntmps33
    go_wp2
    go_end0
    refine ⟨rfl, ⟨_, heap_set (heap_set (heap_set HB.out.1 o _) (o + 1) _) (o + 1) _, ?_, ⟨1, by omega, by omega, ?_⟩, fun q hq hq1 => ?_⟩, ((Chg.set_cell (w := w) ⟨g, o, none⟩ _).then (Chg.set_cell ⟨g, o + 1, none⟩ _)).then (Chg.set_cell ⟨g, o + 1, none⟩ _)⟩
    · rw [set_get, if_neg (by omega), set_get, if_neg (by omega), set_get, if_pos rfl, if_pos l0]
    · rw [set_get, if_pos rfl, if_pos (by simp; exact l1)]
    · rw [set_get, if_neg (fun e => hq1 e.symm), set_get, if_neg (fun e => hq1 e.symm), set_get, if_neg (fun e => hq e.symm)]

set_option maxRecDepth 100000 in
theorem pof_any {w : World} {p g n fn : Nat} {ps : Nat → Int} {vals : Nat → Nat → Int} (h : ProfIs w p g n ps vals) (hf : fn < n) :
    Calls Tryd.prog 32 #[.pointer (some ⟨p, 0, none⟩), .int .i64 fn] w fun e w' => e = .returned (.pointer (some ⟨g, fn * 18, none⟩)) ∧ w' = w := by
  obtain ⟨hne, h0, cap, cur, hp, hn, hc, hg, hcs⟩ := h
  have c0 := cell_of_block hp 0
  simp at c0
  have hn63 : n ≤ 9223372036854775807 := by unfold maxLen at hc; omega
  have t1 : decide ((n : Int) ≤ (fn : Int)) = false := decide_eq_false (by omega)
  clear hp hg hcs
  go_enter Tryd.func32, Tryd.ntmps32
  go_wp2
  go_ret
  exact ⟨rfl, rfl⟩

set_option maxRecDepth 100000 in
theorem pvalue_any {w : World} {p g n fn i : Nat} {ps : Nat → Int} {vals : Nat → Nat → Int} (h : ProfIs w p g n ps vals) (hf : fn < n) (hi : (i : Int) < ps fn) :
    Calls Tryd.prog 44 #[.pointer (some ⟨p, 0, none⟩), .int .i64 fn, .int .i64 i] w fun e w' => (∃ t : Int, e = .returned (.tuple #[.int .i64 (vals fn i), .int .i64 t])) ∧ ∃ k, w' = w.drewN k := by
  have CO := Lib.hid (pof_any h hf)
  obtain ⟨hne, h0, cap, cur, hp, hn, hc, hg, hcs⟩ := h
  obtain ⟨a0, a1, a2⟩ := hcs.par fn hf
  have hi8 : i < 8 := by omega
  obtain ⟨b0, t, ht0, ht1, b1⟩ := hcs.val fn hf i hi8
  have x0 := cell_cur hg a0
  have x1 := cell_cur hg b0
  have x2 := cell_cur hg b1
  obtain ⟨P, hP⟩ : ∃ P, P = ps fn := ⟨_, rfl⟩
  obtain ⟨v, hv⟩ : ∃ v, v = vals fn i := ⟨_, rfl⟩
  rw [← hP] at x0 hi a1 a2
  rw [← hv] at x1 ⊢
  have t1 : decide (P ≤ (i : Int)) = false := decide_eq_false (by omega)
  clear hp hg hcs a0 b0 b1 hv hP
  go_enter Tryd.func44, Tryd.ntmps44
  go_wp2_with fail
  refine CO.out.mono ?_; rintro e w1 ⟨rfl, rfl⟩
  clear CO
  go_upto_region 4 with fail
  go_quiet (fail)
  go_wp2_with fail
  go_ret2
  refine ⟨⟨t, rfl⟩, ?_⟩
  first
  | exact ⟨0, rfl⟩
  | exact ⟨_, rfl⟩

theorem PCells.calls_set {cur : Array Value} {n : Nat} {ps : Nat → Int} {vals : Nat → Nat → Int} (h : PCells cur n ps vals) (fn : Nat) (c : Int) (hc : 0 ≤ c ∧ c ≤ 1000) : PCells (cur.setIfInBounds (fn * 18 + 1) (.int .i64 c)) n ps vals where
  par j hj := ⟨by rw [set_get, if_neg (by omega)]; exact (h.par j hj).1, (h.par j hj).2⟩
  calls j hj := by
    obtain ⟨c0, h0, h1, h2⟩ := h.calls j hj
    by_cases e : j = fn
    · subst e
      exact ⟨c, hc.1, hc.2, by rw [set_get, if_pos rfl, if_pos (lt_of_get h2)]⟩
    · exact ⟨c0, h0, h1, by rw [set_get, if_neg (by omega)]; exact h2⟩
  val j hj i hi := by
    obtain ⟨a, t, t0, t1, b⟩ := h.val j hj i hi
    exact ⟨by rw [set_get, if_neg (by omega)]; exact a, t, t0, t1, by rw [set_get, if_neg (by omega)]; exact b⟩
def seenAt (vals : Nat → Nat → Int) (fn : Nat) (args : List Int) (m : Nat) : Nat → Nat → Int := fun a b => if a = fn ∧ b < m then args.getD b 0 else vals a b
theorem PCells.seen {cur cur' : Array Value} {n : Nat} {ps : Nat → Int} {vals : Nat → Nat → Int} {fn j : Nat} {args : List Int} (h : PCells cur n ps (seenAt vals fn args j)) (hj : j < 8)
    (h0 : cur'[fn * 18 + 2 + j * 2]? = some (.int .i64 (args.getD j 0))) (h1 : ∃ t' : Int, 0 ≤ t' ∧ t' ≤ 1000 ∧ cur'[fn * 18 + 2 + j * 2 + 1]? = some (.int .i64 t')) (hq : ∀ q, q ≠ fn * 18 + 2 + j * 2 → q ≠ fn * 18 + 2 + j * 2 + 1 → cur'[q]? = cur[q]?) : PCells cur' n ps (seenAt vals fn args (j + 1)) where
  par a ha := ⟨by rw [hq _ (by omega) (by omega)]; exact (h.par a ha).1, (h.par a ha).2⟩
  calls a ha := by
    obtain ⟨c, c0, c1, c2⟩ := h.calls a ha
    exact ⟨c, c0, c1, by rw [hq _ (by omega) (by omega)]; exact c2⟩
  val a ha b hb := by
    by_cases e : a = fn ∧ b = j
    · obtain ⟨rfl, rfl⟩ := e
      have hv : seenAt vals a args (b + 1) a b = args.getD b 0 := by unfold seenAt; rw [if_pos ⟨rfl, by omega⟩]
      rw [hv]
      exact ⟨h0, h1⟩
    · obtain ⟨v, t, t0, t1, t2⟩ := h.val a ha b hb
      have hv : seenAt vals fn args (j + 1) a b = seenAt vals fn args j a b := by
        unfold seenAt
        by_cases ha : a = fn
        · by_cases hb2 : b < j
          · rw [if_pos ⟨ha, by omega⟩, if_pos ⟨ha, hb2⟩]
          · rw [if_neg (by omega), if_neg (by omega)]
        · rw [if_neg (fun x => ha x.1), if_neg (fun x => ha x.1)]
      rw [hv]
      exact ⟨by rw [hq _ (by omega) (by omega)]; exact v, t, t0, t1, by rw [hq _ (by omega) (by omega)]; exact t2⟩
set_option maxHeartbeats 4000000 in
set_option maxRecDepth 100000 in
theorem psee_any {w : World} {p g n fn : Nat} {ps : Nat → Int} {vals : Nat → Nat → Int} {b cap : Nat} {args : List Int} (h : ProfIs w p g n ps vals) (hf : fn < n) (hb : b ≠ g) (hl : (args.length : Int) = ps fn) (ha : ∀ j x, args[j]? = some x → w.cell? ⟨b, j, none⟩ = some (.int .i64 x)) :
    Calls Tryd.prog 19 #[.pointer (some ⟨p, 0, none⟩), .int .i64 fn, .slice (some ⟨b, 0, none⟩) args.length cap] w fun e w' => e = .returned (.int .i64 0) ∧ ProfIs w' p g n ps (seenAt vals fn args args.length) ∧ Chg (fun k => k = g) w w' := by
  have CO := Lib.hid (pof_any h hf)
  obtain ⟨hne, h0, capP, cur, hp, hn, hc, hg, hcs⟩ := h
  obtain ⟨a0, a1, a2⟩ := hcs.par fn hf
  obtain ⟨c, c0, c1, c2⟩ := hcs.calls fn hf
  obtain ⟨L, hL⟩ : ∃ L, L = args.length := ⟨_, rfl⟩
  rw [← hL] at hl ⊢
  rw [← hl] at a0
  have hL8 : L ≤ 8 := by omega
  have x0 := cell_cur hg a0
  have x1 := cell_cur hg c2
  have f1 := frozen_of_block hg (fn * 18 + 1)
  obtain ⟨Q, hQ⟩ : ∃ Q, (if 1000 < c + 1 then 1000 else c + 1) = Q := ⟨_, rfl⟩
  have hQ0 : 0 ≤ Q ∧ Q ≤ 1000 := by split at hQ <;> omega
  obtain ⟨w1, hw1⟩ : ∃ z, z = w.setCell ⟨g, fn * 18 + 1, none⟩ (.int .i64 Q) := ⟨_, rfl⟩
  have hc1 : Chg (fun k => k = g) w w1 := by rw [hw1]; exact Chg.set_cell (w := w) ⟨g, fn * 18 + 1, none⟩ _
  have HP1 : Hid (ProfIs w1 p g n ps (seenAt vals fn args 0) ∧ Chg (fun k => k = g) w w1) := Lib.hid ⟨⟨hne, h0, capP, _, hc1.heap hp hne, hn, hc, by rw [hw1]; exact heap_set hg _ _, by
    have e : seenAt vals fn args 0 = vals := by funext a b; unfold seenAt; rw [if_neg (by omega)]
    rw [e]
    exact hcs.calls_set fn _ hQ0⟩, hc1⟩
  have HW1 := Lib.hid hw1
  have HLL := Lib.hid hL
  have HAR := Lib.hid ha
  clear hp hg hcs a0 a1 a2 c2 hw1 hc1 hl hL ha
  go_enter Tryd.func19, Tryd.ntmps19
  go_wp2_with fail
  refine CO.out.mono ?_; rintro e w2 ⟨rfl, hw2⟩
  subst hw2
  clear CO
  go_upto_region 7 with fail
  rw [← HW1.out]
  clear x0 x1 f1
  go_wp2_with fail
  go_loopg [35] L (fun k i wr => ∃ j : Nat, j ≤ L ∧ k = L - j ∧ i = .int .i64 j ∧ Hid (ProfIs wr p g n ps (seenAt vals fn args j) ∧ Chg (fun k => k = g) w2 wr))
  case atStart => exact ⟨0, by omega, rfl, rfl, HP1⟩
  case round =>
    clear HP1
    obtain ⟨j, hj, hk, rfl, HP⟩ := hrel
    have HK := Lib.hid hk
    clear hk
    by_cases hlt : j < L
    · have hjl : j < args.length := by rw [← HLL.out]; exact hlt
      have xa := HP.out.2.cell (HAR.out j args[j] (List.getElem?_eq_getElem hjl)) (fun e => hb e)
      obtain ⟨hne2, _, cap2, cur2, hp2, hn2, hc2, hg2, hcs2⟩ := HP.out.1
      obtain ⟨v0, t, t0, t1, t2⟩ := hcs2.val fn hf j (by omega)
      obtain ⟨x, hx⟩ : ∃ x, x = args[j] := ⟨_, rfl⟩
      rw [← hx] at xa
      have CS := Lib.hid (see_any x hg2 v0 t2 ⟨t0, t1⟩)
      have HX : Hid (x = args.getD j 0) := Lib.hid (by rw [hx, List.getD_eq_getElem?_getD, List.getElem?_eq_getElem hjl]; rfl)
      have HZ := Lib.hid (And.intro hne2 (And.intro hp2 (And.intro hn2 (And.intro hc2 hcs2))))
      clear hne2 hp2 hn2 hc2 hg2 hcs2 v0 t2 hx hjl
      go_wp2_with fail
      refine CS.out.mono ?_; rintro e w3 ⟨rfl, ⟨cur3, h3, h4, h5, h6⟩, hc3⟩
      have HP3 : Hid (ProfIs w3 p g n ps (seenAt vals fn args (j + 1)) ∧ Chg (fun k => k = g) w2 w3) := Lib.hid ⟨⟨HZ.out.1, h0, cap2, cur3, hc3.heap HZ.out.2.1 HZ.out.1, HZ.out.2.2.1, HZ.out.2.2.2.1, h3, HZ.out.2.2.2.2.seen (by omega) (by rw [← HX.out]; exact h4) h5 h6⟩, HP.out.2.then hc3⟩
      clear CS h3 h4 h5 h6 hc3 xa
      go_wp2_with fail
      go_roundg (L - (j + 1))
      case measure => have := HK.out; omega
      case rel => exact ⟨j + 1, by omega, rfl, by go_num, HP3⟩
    · obtain rfl : j = L := by omega
      go_wp2_with fail
      go_ret
      exact ⟨rfl, HP.out⟩

/-! ### New -/
def clampP (q : Int) : Int := min (max q 0) 8
def pcell (q : Int) : List Value := [.int .i64 (clampP q), .int .i64 0, .int .i64 0, .int .i64 0, .int .i64 0, .int .i64 0, .int .i64 0, .int .i64 0, .int .i64 0, .int .i64 0, .int .i64 0, .int .i64 0, .int .i64 0, .int .i64 0, .int .i64 0, .int .i64 0, .int .i64 0, .int .i64 0]
theorem pcells_len (l : List Int) : (l.flatMap pcell).length = l.length * 18 := by
  induction l with
  | nil => rfl
  | cons x l ih => rw [List.flatMap_cons, List.length_append, ih, List.length_cons]; show 18 + _ = _; omega
theorem pcells_get : ∀ (l : List Int) (j r : Nat) (q : Int), l[j]? = some q → r < 18 → (l.flatMap pcell)[j * 18 + r]? = (pcell q)[r]?
  | [], j, r, q, h, _ => by simp at h
  | x :: l, 0, r, q, h, hr => by
    injection h with h
    subst h
    rw [List.flatMap_cons, Nat.zero_mul, Nat.zero_add, List.getElem?_append_left (by show r < 18; exact hr)]
  | x :: l, j + 1, r, q, h, hr => by
    rw [List.flatMap_cons, List.getElem?_append_right (by show 18 ≤ _; omega)]
    have e : (j + 1) * 18 + r - (pcell x).length = j * 18 + r := by show (j + 1) * 18 + r - 18 = _; omega
    rw [e]
    exact pcells_get l j r q h hr
theorem PCells.of {cur : Array Value} {ps : List Int} (h : ∀ i, i < ps.length * 18 → cur[i]? = (ps.flatMap pcell)[i]?) : PCells cur ps.length (fun j => clampP (ps.getD j 0)) (fun _ _ => 0) := by
  have hg : ∀ j r, j < ps.length → r < 18 → cur[j * 18 + r]? = (pcell (ps.getD j 0))[r]? := fun j r hj hr => by
    rw [h _ (by omega)]
    exact pcells_get ps j r _ (by rw [List.getD_eq_getElem?_getD, List.getElem?_eq_getElem hj]; rfl) hr
  refine ⟨fun j hj => ⟨hg j 0 hj (by decide), by unfold clampP; omega, by unfold clampP; omega⟩, fun j hj => ⟨0, by decide, by decide, hg j 1 hj (by decide)⟩, fun j hj i hi => ?_⟩
  have h0 : i = 0 ∨ i = 1 ∨ i = 2 ∨ i = 3 ∨ i = 4 ∨ i = 5 ∨ i = 6 ∨ i = 7 := by omega
  have h1 := hg j (2 + i * 2) hj (by omega)
  have h2 := hg j (2 + i * 2 + 1) hj (by omega)
  rw [show j * 18 + (2 + i * 2) = j * 18 + 2 + i * 2 by omega] at h1
  rw [show j * 18 + (2 + i * 2 + 1) = j * 18 + 2 + i * 2 + 1 by omega] at h2
  rcases h0 with rfl | rfl | rfl | rfl | rfl | rfl | rfl | rfl <;> exact ⟨h1, 0, by decide, by decide, h2⟩
theorem infoPF : (Tryd.prog.info? 94).map (fun i => (i.size, i.bytes)) = some (18, 144) := by kernel_rfl
theorem infoPZ : ((Tryd.prog.info? 94).bind (fun i => i.zero)).map (fun z => z.cells.size) = some 18 := by kernel_rfl
structure PNew (w wr : World) (P : Nat) (V : Value) (ps : List Int) : Prop where
  box : wr.heap[P]? = some (.cells #[V] 89 (0, 0))
  row : wr.ownsRow 0 94 18 V ps.length (ps.flatMap pcell)
  far : ∀ k, V.ownBlock = some k → P < k
  bel : Below w.heap.size w wr
set_option maxHeartbeats 4000000 in
set_option maxRecDepth 100000 in
theorem pnew_any {w : World} {V : Value} {ps : List Int} (h : NumSrc w V ps) (hl : ps.length ≤ 1048576) :
    Calls Tryd.prog 17 #[V] w fun e w' => ∃ p g, e = .returned (.pointer (some ⟨p, 0, none⟩)) ∧ (w.heap.size ≤ p ∧ p < w'.heap.size) ∧ (0 < ps.length → (w.heap.size ≤ g ∧ g < w'.heap.size) ∧ ∃ vals, ProfIs w' p g ps.length (fun j => clampP (ps.getD j 0)) vals) ∧ Below w.heap.size w w' := by
  obtain ⟨A, c, rfl⟩ := h.shape
  obtain ⟨i0, hi, hi1⟩ := Option.map_eq_some_iff.1 infoPF
  simp only [Prod.mk.injEq] at hi1
  obtain ⟨hz1, hz2⟩ := hi1
  obtain ⟨z0, hz0, hzs⟩ : ∃ z, i0.zero = some z ∧ z.cells.size = 18 := by
    have hh := infoPZ
    rw [hi] at hh
    obtain ⟨z, e1, e2⟩ := Option.map_eq_some_iff.1 hh
    exact ⟨z, e1, e2⟩
  obtain ⟨n, hn⟩ : ∃ n, n = ps.length := ⟨_, rfl⟩
  rw [← hn] at hl ⊢
  have HN := Lib.hid hn
  have HS := Lib.hid h.get.2.2.2
  obtain ⟨w0, hw0⟩ : ∃ z, z = w.alloc (.cells #[.slice none 0 0] 89) := ⟨_, rfl⟩
  obtain ⟨P, hP⟩ : ∃ z, z = w.heap.size := ⟨_, rfl⟩
  have H0 : Hid (PNew w w0 P (.slice none 0 0) (ps.take 0)) := Lib.hid ⟨by rw [hw0]; exact heap_new' hP.symm, World.ownsRow_nil _ _ _ _, (fun k hk => by cases hk), by rw [hw0]; exact (Below.refl _ _).alloc (Nat.le_refl _) _⟩
  have HW := Lib.hid (And.intro hw0 hP)
  clear h hn hw0 hP
  go_enter Tryd.func17, Tryd.ntmps17
  go_upto_region 2 with fail
  rw [← HW.out.1, ← HW.out.2]
  go_wp2_with fail
  go_loopg [10] n (fun k i wr => ∃ (j : Nat) (U : Value), j ≤ n ∧ k = n - j ∧ i = .int .i64 j ∧ Hid (PNew w wr P U (ps.take j)))
  case atStart => exact ⟨0, _, by omega, rfl, rfl, H0⟩
  case round =>
    clear H0
    obtain ⟨j, U, hj, hk, rfl, HP⟩ := hrel
    have HK := Lib.hid hk
    clear hk
    by_cases hlt : j < n
    · have hjl : j < ps.length := by rw [← HN.out]; exact hlt
      obtain ⟨b, off, rfl, hc⟩ := HS.out j hjl
      have hcr := (Below.chg HP.out.bel).cell hc (fun x => x)
      have htk : ps.take (j + 1) = ps.take j ++ [ps[j]] := List.take_succ_eq_append_getElem hjl
      obtain ⟨q, hq⟩ : ∃ q, q = ps[j] := ⟨_, rfl⟩
      rw [← hq] at hcr htk
      have hlj : (ps.take j).length = j := by rw [List.length_take]; omega
      obtain ⟨_, B, d, rfl⟩ := ownsRow_slice HP.out.row
      rw [hlj] at HP
      obtain ⟨cq1, hq1⟩ : ∃ z, (if q < 0 then 0 else q) = z := ⟨_, rfl⟩
      obtain ⟨cq, hq2⟩ : ∃ z, (if 8 < cq1 then 8 else cq1) = z := ⟨_, rfl⟩
      have hcq : Hid (pcell q = [.int .i64 cq, .int .i64 0, .int .i64 0, .int .i64 0, .int .i64 0, .int .i64 0, .int .i64 0, .int .i64 0, .int .i64 0, .int .i64 0, .int .i64 0, .int .i64 0, .int .i64 0, .int .i64 0, .int .i64 0, .int .i64 0, .int .i64 0, .int .i64 0]) := Lib.hid (by
        have e : clampP q = cq := by unfold clampP; split at hq1 <;> split at hq2 <;> omega
        unfold pcell
        rw [e])
      obtain ⟨wx, hwx⟩ : ∃ z, z = wr.alloc (.cells #[.int .i64 cq, .int .i64 0, .int .i64 0, .int .i64 0, .int .i64 0, .int .i64 0, .int .i64 0, .int .i64 0, .int .i64 0, .int .i64 0, .int .i64 0, .int .i64 0, .int .i64 0, .int .i64 0, .int .i64 0, .int .i64 0, .int .i64 0, .int .i64 0] 94) := ⟨_, rfl⟩
      have hcx : Chg (fun _ => False) wr wx := by rw [hwx]; exact (Chg.refl _ _).alloc _
      have HROW : Hid (wx.ownsRow 0 94 18 (.slice B j d) j ((ps.take j).flatMap pcell)) := Lib.hid (by have h := ownsRow_kept HP.out.row hcx (fun _ _ x => x); rw [hlj] at h; exact h)
      have HNEW : Hid (∀ (i : Nat) u, ([.int .i64 cq, .int .i64 0, .int .i64 0, .int .i64 0, .int .i64 0, .int .i64 0, .int .i64 0, .int .i64 0, .int .i64 0, .int .i64 0, .int .i64 0, .int .i64 0, .int .i64 0, .int .i64 0, .int .i64 0, .int .i64 0, .int .i64 0, .int .i64 0] : List Value)[i]? = some u → wx.cell? ((⟨wr.heap.size, 0, none⟩ : Addr).add i) = some u) := Lib.hid (World.news_of_block (cs := #[.int .i64 cq, .int .i64 0, .int .i64 0, .int .i64 0, .int .i64 0, .int .i64 0, .int .i64 0, .int .i64 0, .int .i64 0, .int .i64 0, .int .i64 0, .int .i64 0, .int .i64 0, .int .i64 0, .int .i64 0, .int .i64 0, .int .i64 0, .int .i64 0]) (t := 94) (fr := (0, 0)) (by rw [hwx]; exact heap_new _ _))
      have HSZ : Hid (wx.heap.size = wr.heap.size + 1) := Lib.hid (by rw [hwx]; simp)
      have HC := Lib.hid hcx
      have HWX := Lib.hid hwx
      have HTK := Lib.hid htk
      have HLJ := Lib.hid hlj
      have x0 := cell_of_block HP.out.box 0
      have f0 := frozen_of_block HP.out.box 0
      simp at x0
      have hPl := lt_of_heap HP.out.box
      clear hc hq hcx hwx htk hlj
      go_upto_region 5 with fail
      go_wp2_with (at_builtin; rw [← HWX.out]; refine wpList_append_lies _ rfl _ _ _ rfl 0 94 i0 _ 18 144 Tryd.underlying87 hi hz0 hz1 hz2 hzs (by omega) (.slice B j d) j ((ps.take j).flatMap pcell) rfl HROW.out ⟨wr.heap.size, 0, none⟩ 1 1 [.int .i64 cq, .int .i64 0, .int .i64 0, .int .i64 0, .int .i64 0, .int .i64 0, .int .i64 0, .int .i64 0, .int .i64 0, .int .i64 0, .int .i64 0, .int .i64 0, .int .i64 0, .int .i64 0, .int .i64 0, .int .i64 0, .int .i64 0, .int .i64 0] rfl rfl HNEW.out (by simp [Value.oneCell']) (by omega) (by unfold maxLen; omega) (by omega) (by omega) (wr.heap.size + 1) HSZ.out ?_; intro g5 cap5 w5 hown5 hgrow5 hat5 hlt5; have hbx5 := (Chg.of_grown hgrow5).heap (HC.out.heap HP.out.box (fun x => x)) (fun e => by have := HP.out.far P e; omega); have HC5 := Lib.hid (And.intro hown5 (And.intro (Chg.of_grown hgrow5) (And.intro hat5 (And.intro hlt5 hbx5)))); clear x0 f0; have x0 := cell_of_block hbx5 0; have f0 := frozen_of_block hbx5 0; simp at x0; clear hown5 hgrow5 hat5 hlt5 hbx5)
      have HP6 : Hid (PNew w (w5.setCell ⟨P, 0, none⟩ (.slice (some ⟨g5, 0, none⟩) (j + 1) cap5)) P (.slice (some ⟨g5, 0, none⟩) (j + 1) cap5) (ps.take (j + 1))) := Lib.hid (by
        have hfar : P < g5 := by
          rcases HC5.out.2.2.1 with e | e
          · exact HP.out.far g5 e
          · omega
        have hset : Chg (fun k => k = P) w5 (w5.setCell ⟨P, 0, none⟩ (.slice (some ⟨g5, 0, none⟩) (j + 1) cap5)) := Chg.set_cell (w := w5) ⟨P, 0, none⟩ _
        have hw := HP.out.bel.size
        have hPw : w.heap.size ≤ P := by rw [HW.out.2]; exact Nat.le_refl _
        refine ⟨heap_set HC5.out.2.2.2.2 0 _, ?_, fun k hk => ?_, ?_⟩
        · have hr := ownsRow_kept HC5.out.1 hset (fun k hk e => by have hk : some g5 = some k := hk; injection hk with hk; have e : k = P := e; omega)
          have hl2 : (ps.take (j + 1)).length = j + 1 := by rw [List.length_take]; have := HN.out; omega
          rw [hl2, HTK.out, List.flatMap_append, List.flatMap_singleton, hcq.out]
          exact hr
        · have hk : some g5 = some k := hk
          injection hk with hk
          omega
        · have h1 : Below w.heap.size wr wx := HC.out.below (fun k h => h.elim) hw
          have h2 := (HP.out.bel.trans h1).trans (HC5.out.2.1.below (B := w.heap.size) (fun k h => by have := HP.out.far k h; omega) (Nat.le_trans hw h1.size))
          exact h2.trans (hset.below (B := w.heap.size) (fun k e => by have e : k = P := e; rw [e]; exact hPw) h2.size))
      clear x0 f0
      go_roundg (n - (j + 1))
      case measure => have := HK.out; omega
      case rel => exact ⟨j + 1, _, by omega, rfl, by go_num, HP6⟩
    · obtain rfl : j = n := by omega
      go_wp2_with fail
      go_ret
      have hps : ps.take j = ps := List.take_of_length_le (by have := HN.out; omega)
      have hpn := HP.out
      rw [hps] at hpn
      have hPw : w.heap.size ≤ P := by rw [HW.out.2]; exact Nat.le_refl _
      rcases hpn.row.2 with ⟨rfl, h0⟩ | ⟨g, cap, cur, rfl, hb, hh, h1, h2, h3, h4⟩
      · exact ⟨P, 0, rfl, ⟨hPw, lt_of_heap hpn.box⟩, fun h => by have := HN.out; omega, hpn.bel⟩
      · have hf := hpn.far g rfl
        refine ⟨P, g, rfl, ⟨hPw, lt_of_heap hpn.box⟩, fun h => ⟨⟨by omega, lt_of_heap hh⟩, fun _ _ => 0, ⟨by omega, h, cap, cur, by rw [HN.out]; exact hpn.box, by rw [HN.out]; exact h1, h2, hh, ?_⟩⟩, hpn.bel⟩
        rw [HN.out]
        refine PCells.of (fun i hi => ?_)
        have h5 : (cur.toList.take (ps.length * 18))[i]? = (ps.flatMap pcell)[i]? := by rw [h4]
        rw [List.getElem?_take, if_pos hi, Array.getElem?_toList] at h5
        exact h5
end Go.Proofs.YtgiegkacilfofabDoor
