/- Rows of instructions, and of numbers: slices.Clone, alike, same, one. -/
import Derived.Test.YthmjmggeihonnaaRow
import Derived.Deep.LoopGhost
import Derived.Deep.QuietTactic
import Derived.BigQuiet
import Derived.Lib.Hide
import Derived.Lib.LazyBuf
namespace Go.Proofs.Ythmjmggeihonnaa
set_option linter.unusedVariables false
set_option linter.unusedSimpArgs false
open Go.RowKit

structure InsR where
  op : Int
  a : Int
  n : Int
deriving DecidableEq
def InsR.cells (p : InsR) : List Value := [.int .i64 p.op, .int .i64 p.a, .int .i64 p.n]
def insCells (l : List InsR) : List Value := l.flatMap InsR.cells
theorem insCells_length (l : List InsR) : (insCells l).length = l.length * 3 := by
  induction l with
  | nil => rfl
  | cons p l ih => simp only [insCells, List.flatMap_cons, List.length_append, List.length_cons] at ih ⊢; rw [ih]; simp [InsR.cells]; omega
theorem insCells_one (l : List InsR) : ∀ u ∈ insCells l, u.oneCell' = true := fun u hu => by
  obtain ⟨p, _, hp⟩ := List.mem_flatMap.1 hu
  simp only [InsR.cells, List.mem_cons, List.not_mem_nil, or_false] at hp
  rcases hp with rfl | rfl | rfl <;> rfl
theorem insCells_get (l : List InsR) (k : Nat) (h : k < l.length) : (insCells l)[k * 3]? = some (.int .i64 l[k].op) ∧ (insCells l)[k * 3 + 1]? = some (.int .i64 l[k].a) ∧ (insCells l)[k * 3 + 2]? = some (.int .i64 l[k].n) := by
  induction l generalizing k with
  | nil => simp at h
  | cons p l ih =>
    cases k with
    | zero => simp [insCells, InsR.cells]
    | succ k =>
      have := ih k (by simpa using h)
      unfold insCells at this ⊢
      simp only [List.flatMap_cons, List.getElem_cons_succ]
      have hp : p.cells.length = 3 := rfl
      rw [List.getElem?_append_right (by omega), List.getElem?_append_right (by omega), List.getElem?_append_right (by omega), hp]
      rw [show (k + 1) * 3 - 3 = k * 3 by omega, show (k + 1) * 3 + 1 - 3 = k * 3 + 1 by omega, show (k + 1) * 3 + 2 - 3 = k * 3 + 2 by omega]
      exact this

/-- the value v is a slice whose elements' cells are cs, of size each -/
def Src (w : World) (v : Value) (n : Nat) (cs : List Value) : Prop :=
  ((∃ A c, v = .slice A 0 c) ∧ n = 0 ∧ cs = []) ∨ ∃ b off cap, v = .slice (some ⟨b, off, none⟩) n cap ∧ b < w.heap.size ∧ n ≤ cap ∧ n ≤ maxLen ∧ ∀ (j : Nat) u, cs[j]? = some u → w.cell? ⟨b, off + j, none⟩ = some u
theorem Src.of_row {w : World} {e : TypeId} {size n : Nat} {v : Value} {xs : List Value} (h : w.ownsRow 0 e size v n xs) : Src w v n xs := by
  have hcs := fun g hg => h.cells (g := g) hg
  have hl := h.1
  rcases h.2 with ⟨rfl, rfl⟩ | ⟨g, cap, cur, rfl, hb, hh, h1, h2, h3⟩
  · exact .inl ⟨⟨none, 0, rfl⟩, rfl, List.length_eq_zero_iff.1 (by omega)⟩
  · refine .inr ⟨g, 0, cap, rfl, lt_of_heap hh, h1, Nat.le_trans h1 h2, fun j u hu => ?_⟩
    have := hcs g rfl j u hu
    rw [add0] at this
    rwa [Nat.zero_add]
theorem Src.kept {w w' : World} {T : Nat → Prop} {n : Nat} {v : Value} {cs : List Value} (h : Src w v n cs) (hc : Chg T w w') (hn : (n = 0 ∧ cs = []) ∨ ∀ k, v.ownBlock = some k → ¬ T k) : Src w' v n cs := by
  rcases h with h | ⟨b, off, cap, rfl, hb, h1, h2, h3⟩
  · exact .inl h
  · rcases hn with ⟨rfl, rfl⟩ | hn
    · exact .inl ⟨⟨_, _, rfl⟩, rfl, rfl⟩
    · exact .inr ⟨b, off, cap, rfl, Nat.lt_of_lt_of_le hb hc.size, h1, h2, fun j u hu => hc.cell (h3 j u hu) (hn b rfl)⟩
theorem Src.bound {w : World} {n : Nat} {v : Value} {cs : List Value} (h : Src w v n cs) : n ≤ maxLen ∧ ∃ A c, v = .slice A n c := by
  rcases h with ⟨⟨A, c, rfl⟩, rfl, _⟩ | ⟨b, off, cap, rfl, _, h1, h2, _⟩
  · exact ⟨by simp [maxLen], A, c, rfl⟩
  · exact ⟨by omega, _, _, rfl⟩

theorem infoInt : (Try.prog.info? 3).map (fun i => (i.zero, i.size, i.bytes)) = some (some (.int .i64 0), 1, 8) := by kernel_rfl
theorem infoIns : (Try.prog.info? 40).map (fun i => (i.zero, i.size, i.bytes)) = some (some (.agg #[.int .i64 0, .int .i64 0, .int .i64 0]), 3, 24) := by kernel_rfl

set_option maxRecDepth 100000 in
theorem cloneIns_some {w : World} {ad : Addr} {n cap : Nat} {cs : List Value} (hcs : ∀ (j : Nat) u, cs[j]? = some u → w.cell? (ad.add j) = some u) (hl : cs.length = n * 3) (h1 : ∀ u ∈ cs, u.oneCell' = true) (hn : n ≤ 5864062014634) :
    Calls Try.prog 24 #[.slice (some ad) n cap] w fun e w' => ∃ v', e = .returned v' ∧ w'.ownsRow 0 40 3 v' n cs ∧ (∀ k, v'.ownBlock = some k → w.heap.size ≤ k) ∧ Chg (fun _ => False) w w' := by
  obtain ⟨i0, hi, hz0, hz1, hz2⟩ := info_parts infoIns
  have hrow : (w.alloc (.cells #[] 40)).ownsRow 0 40 3 (.slice (some ⟨w.heap.size, 0, none⟩) 0 0) 0 [] :=
    ⟨rfl, .inr ⟨w.heap.size, 0, #[], rfl, Nat.zero_le _, heap_new _ _, Nat.le_refl _, by simp [maxLen], rfl, rfl⟩⟩
  have hnews : ∀ (j : Nat) u, cs[j]? = some u → (w.alloc (.cells #[] 40)).cell? (ad.add j) = some u := fun j u hu => cell_alloc (hcs j u hu) _
  have HR := Lib.hid hrow
  have HNW := Lib.hid hnews
  clear hcs hnews hrow
  have hnil := Go.run_eql_slice_nil (P := Try.prog) w 30 _ (some ad) n cap Try.underlying30
  simp only [Option.isNone] at hnil
  go_enter Try.func24, Try.ntmps24
  go_wp2_with (at_builtin; refine wpList_append_own_at _ rfl _ _ 30 rfl 0 40 i0 _ 3 24 Try.underlying30 hi hz0 hz1 hz2 rfl (by omega) (.slice (some ⟨w.heap.size, 0, none⟩) 0 0) 0 [] rfl HR.out ad n cap cs rfl hl HNW.out h1 (by unfold maxLen; omega) (by omega) (by omega) ?_; intro v' w' h2 h3 _ h5; simp only [Nat.zero_add, List.nil_append] at h2)
  go_ret
  refine ⟨v', rfl, h2, fun k hk => ?_, ((Chg.refl (fun _ => False) w).alloc _).grownBy h3 (fun k hk hlt => ?_)⟩
  · rcases h5 with h5 | h5
    · rw [h5] at hk
      have hk : w.heap.size = k := by injection hk
      omega
    · rw [h5] at hk
      injection hk with hk
      rw [← hk]
      simp
  · have hk : w.heap.size = k := by injection hk
    omega
set_option maxRecDepth 100000 in
theorem cloneIns_nil {w : World} {cap : Nat} :
    Calls Try.prog 24 #[.slice none 0 cap] w fun e w' => ∃ v', e = .returned v' ∧ w'.ownsRow 0 40 3 v' 0 [] ∧ (∀ k, v'.ownBlock = some k → w.heap.size ≤ k) ∧ Chg (fun _ => False) w w' := by
  have hnil := Go.run_eql_slice_nil (P := Try.prog) w 30 _ none 0 cap Try.underlying30
  simp only [Option.isNone] at hnil
  go_enter Try.func24, Try.ntmps24
  go_wp2_with fail
  go_ret
  exact ⟨_, rfl, World.ownsRow_nil _ _ _ _, (fun k hk => by cases hk), Chg.refl _ _⟩
theorem cloneIns_any {w : World} {v : Value} {n : Nat} {cs : List Value} (h : Src w v n cs) (hl : cs.length = n * 3) (h1 : ∀ u ∈ cs, u.oneCell' = true) (hn : n ≤ 5864062014634) :
    Calls Try.prog 24 #[v] w fun e w' => ∃ v', e = .returned v' ∧ w'.ownsRow 0 40 3 v' n cs ∧ (∀ k, v'.ownBlock = some k → w.heap.size ≤ k) ∧ Chg (fun _ => False) w w' := by
  rcases h with ⟨⟨A, c, rfl⟩, rfl, rfl⟩ | ⟨b, off, cap, rfl, hb, hnc, hc, hcs⟩
  · cases A with
    | none => exact cloneIns_nil
    | some ad => exact cloneIns_some (fun j u hu => by simp at hu) (by simp) (fun u hu => by simp at hu) (by omega)
  · refine cloneIns_some (fun j u hu => ?_) hl h1 hn
    have : (⟨b, off, none⟩ : Addr).add j = ⟨b, off + j, none⟩ := by unfold Addr.add; split <;> simp_all
    rw [this]
    exact hcs j u hu

set_option maxRecDepth 100000 in
theorem cloneInt_some {w : World} {ad : Addr} {n cap : Nat} {cs : List Value} (hcs : ∀ (j : Nat) u, cs[j]? = some u → w.cell? (ad.add j) = some u) (hl : cs.length = n) (h1 : ∀ u ∈ cs, u.oneCell' = true) (hn : n ≤ 1048576) :
    Calls Try.prog 27 #[.slice (some ad) n cap] w fun e w' => ∃ v', e = .returned v' ∧ w'.ownsRow 0 3 1 v' n cs ∧ (∀ k, v'.ownBlock = some k → w.heap.size ≤ k) ∧ Chg (fun _ => False) w w' := by
  obtain ⟨i0, hi, hz0, hz1, hz2⟩ := info_parts infoInt
  have hrow : (w.alloc (.cells #[] 3)).ownsRow 0 3 1 (.slice (some ⟨w.heap.size, 0, none⟩) 0 0) 0 [] :=
    ⟨rfl, .inr ⟨w.heap.size, 0, #[], rfl, Nat.zero_le _, heap_new _ _, Nat.le_refl _, by simp [maxLen], rfl, rfl⟩⟩
  have hnews : ∀ (j : Nat) u, cs[j]? = some u → (w.alloc (.cells #[] 3)).cell? (ad.add j) = some u := fun j u hu => cell_alloc (hcs j u hu) _
  have HR := Lib.hid hrow
  have HNW := Lib.hid hnews
  clear hcs hnews hrow
  have hnil := Go.run_eql_slice_nil (P := Try.prog) w 45 _ (some ad) n cap Try.underlying45
  simp only [Option.isNone] at hnil
  go_enter Try.func27, Try.ntmps27
  go_wp2_with (at_builtin; refine wpList_append_own_at _ rfl _ _ 45 rfl 0 3 i0 _ 1 8 Try.underlying45 hi hz0 hz1 hz2 rfl (by omega) (.slice (some ⟨w.heap.size, 0, none⟩) 0 0) 0 [] rfl HR.out ad n cap cs rfl (by omega) HNW.out h1 (by unfold maxLen; omega) (by omega) (by omega) ?_; intro v' w' h2 h3 _ h5; simp only [Nat.zero_add, List.nil_append] at h2)
  go_ret
  refine ⟨v', rfl, h2, fun k hk => ?_, ((Chg.refl (fun _ => False) w).alloc _).grownBy h3 (fun k hk hlt => ?_)⟩
  · rcases h5 with h5 | h5
    · rw [h5] at hk
      have hk : w.heap.size = k := by injection hk
      omega
    · rw [h5] at hk
      injection hk with hk
      rw [← hk]
      simp
  · have hk : w.heap.size = k := by injection hk
    omega
set_option maxRecDepth 100000 in
theorem cloneInt_nil {w : World} {cap : Nat} :
    Calls Try.prog 27 #[.slice none 0 cap] w fun e w' => ∃ v', e = .returned v' ∧ w'.ownsRow 0 3 1 v' 0 [] ∧ (∀ k, v'.ownBlock = some k → w.heap.size ≤ k) ∧ Chg (fun _ => False) w w' := by
  have hnil := Go.run_eql_slice_nil (P := Try.prog) w 45 _ none 0 cap Try.underlying45
  simp only [Option.isNone] at hnil
  go_enter Try.func27, Try.ntmps27
  go_wp2_with fail
  go_ret
  exact ⟨_, rfl, World.ownsRow_nil _ _ _ _, (fun k hk => by cases hk), Chg.refl _ _⟩
theorem cloneInt_any {w : World} {v : Value} {n : Nat} {cs : List Value} (h : Src w v n cs) (hl : cs.length = n) (h1 : ∀ u ∈ cs, u.oneCell' = true) (hn : n ≤ 1048576) :
    Calls Try.prog 27 #[v] w fun e w' => ∃ v', e = .returned v' ∧ w'.ownsRow 0 3 1 v' n cs ∧ (∀ k, v'.ownBlock = some k → w.heap.size ≤ k) ∧ Chg (fun _ => False) w w' := by
  rcases h with ⟨⟨A, c, rfl⟩, rfl, rfl⟩ | ⟨b, off, cap, rfl, hb, hnc, hc, hcs⟩
  · cases A with
    | none => exact cloneInt_nil
    | some ad => exact cloneInt_some (fun j u hu => by simp at hu) (by simp) (fun u hu => by simp at hu) (by omega)
  · refine cloneInt_some (fun j u hu => ?_) hl h1 hn
    have : (⟨b, off, none⟩ : Addr).add j = ⟨b, off + j, none⟩ := by unfold Addr.add; split <;> simp_all
    rw [this]
    exact hcs j u hu

theorem wp_skip_ : True := trivial

/-- a body that tells a number -/
def oneR (n : Int) : List InsR := [⟨1, 0, n⟩, ⟨18, 0, 0⟩]
set_option maxRecDepth 100000 in
theorem one_any (n : Int) (w : World) :
    Calls Try.prog 21 #[.int .i64 n] w fun e w' => ∃ v, e = .returned v ∧ w'.ownsRow 0 40 3 v 2 (insCells (oneR n)) ∧ (∀ k, v.ownBlock = some k → k = w.heap.size) ∧ v ≠ .slice none 0 0 ∧ Chg (fun _ => False) w w' := by
  go_enter Try.func21, Try.ntmps21
  go_wp2_with fail
  go_ret
  refine ⟨_, rfl, ⟨rfl, .inr ⟨w.heap.size, 2, _, rfl, Nat.zero_le _, heap_new _ _, Nat.le_refl _, by simp [maxLen], rfl, rfl⟩⟩, (fun k hk => by injection hk with hk; exact hk.symm), (fun e => by cases e), (Chg.refl _ _).alloc _⟩

set_option maxHeartbeats 1000000 in
set_option maxRecDepth 100000 in
theorem same_any {w : World} {a b : Value} {xs ys : List Int} (ha : Src w a xs.length (xs.map (Value.int .i64))) (hb : Src w b ys.length (ys.map (Value.int .i64))) :
    Calls Try.prog 23 #[a, b] w fun e w' => e = .returned (.bool (decide (xs = ys))) ∧ ∃ m, w' = w.drewN m := by
  have HA := Lib.hid ha
  have HB := Lib.hid hb
  obtain ⟨ma, A, ca, rfl⟩ := ha.bound
  obtain ⟨mb, B, cb, rfl⟩ := hb.bound
  clear ha hb
  obtain ⟨n, hN⟩ : ∃ n, n = xs.length := ⟨_, rfl⟩
  obtain ⟨m, hM⟩ : ∃ m, m = ys.length := ⟨_, rfl⟩
  rw [← hN] at ma HA
  rw [← hM] at mb HB
  rw [← hN, ← hM]
  have HN := Lib.hid hN
  have HM := Lib.hid hM
  clear hN hM
  unfold maxLen at ma mb
  by_cases hl : n = m
  · subst hl
    go_enter Try.func23, Try.ntmps23
    go_wp2_with fail
    go_loopg [5] n (fun k i wr => ∃ j : Nat, j ≤ n ∧ k = n - j ∧ i = .int .i64 j ∧ Hid (xs.take j = ys.take j) ∧ ∃ m, wr = w.drewN m)
    case atStart => exact ⟨0, by omega, rfl, rfl, Lib.hid rfl, 0, rfl⟩
    case round =>
      obtain ⟨j, hj, hk, rfl, HT, m, rfl⟩ := hrel
      have HK := Lib.hid hk
      clear hk
      by_cases hlt : j < n
      · have ex : xs[j]? = some (xs.getD j 0) := by rw [List.getD_eq_getElem?_getD, List.getElem?_eq_getElem (by rw [← HN.out]; exact hlt)]; rfl
        have ey : ys[j]? = some (ys.getD j 0) := by rw [List.getD_eq_getElem?_getD, List.getElem?_eq_getElem (by rw [← HM.out]; exact hlt)]; rfl
        rcases HA.out with ⟨e, h0, _⟩ | ⟨b1, o1, c1, e, _, _, _, d1⟩
        · exact absurd h0 (by omega)
        rcases HB.out with ⟨e', h0, _⟩ | ⟨b2, o2, c2, e', _, _, _, d2⟩
        · exact absurd h0 (by omega)
        injection e with e1 e2 e3
        injection e' with e1' e2' e3'
        subst e1 e3 e1' e3'
        clear e2 e2'
        have d1 := d1 j (.int .i64 (xs.getD j 0)) (by rw [List.getElem?_map, ex]; rfl)
        have d2 := d2 j (.int .i64 (ys.getD j 0)) (by rw [List.getElem?_map, ey]; rfl)
        have d1 : ∀ m, (w.drewN m).cell? ⟨b1, o1 + j, none⟩ = some (.int .i64 (xs.getD j 0)) := fun m => d1
        have d2 : ∀ m, (w.drewN m).cell? ⟨b2, o2 + j, none⟩ = some (.int .i64 (ys.getD j 0)) := fun m => d2
        have d10 : (w.drewN m).drew.cell? ⟨b1, o1 + j, none⟩ = _ := d1 (m + 1)
        have d20 : (w.drewN m).drew.cell? ⟨b2, o2 + j, none⟩ = _ := d2 (m + 1)
        have HX := Lib.hid (And.intro ex ey)
        clear ex ey
        generalize xs.getD j 0 = x at *
        generalize ys.getD j 0 = y at *
        by_cases hxy : x = y
        · subst hxy
          go_wp2_with fail
          go_region
          go_wp2_with fail
          go_roundg (n - (j + 1))
          case measure => have := HK.out; omega
          case rel => exact ⟨j + 1, by omega, rfl, by go_num, Lib.hid (by
            obtain ⟨ex, ey⟩ := HX.out
            rw [List.take_add_one, List.take_add_one, HT.out, ex, ey]), m + 1, rfl⟩
        · go_wp2_with fail
          go_region
          go_wp2_with fail
          go_ret
          refine ⟨?_, m + 1, rfl⟩
          rw [decide_eq_false (fun e => by
            obtain ⟨ex, ey⟩ := HX.out
            rw [e, ey] at ex
            injection ex with ex
            exact hxy ex.symm)]
          rfl
      · go_wp2_with fail
        go_ret
        refine ⟨?_, m, rfl⟩
        have : j = xs.length := by rw [← HN.out]; omega
        have h := HT.out
        rw [this, List.take_length, ← HN.out, HM.out, List.take_length] at h
        rw [decide_eq_true h]
        rfl
  · go_enter Try.func23, Try.ntmps23
    go_wp2_with fail
    go_ret
    refine ⟨?_, 0, rfl⟩
    rw [decide_eq_false (fun e => hl (by rw [HN.out, HM.out, e]))]
    rfl

set_option maxHeartbeats 1000000 in
set_option maxRecDepth 100000 in
theorem alike_any {w : World} {a b : Value} {xs ys : List InsR} (ha : Src w a xs.length (insCells xs)) (hb : Src w b ys.length (insCells ys)) :
    Calls Try.prog 22 #[a, b] w fun e w' => e = .returned (.bool (decide (xs = ys))) ∧ ∃ m, w' = w.drewN m := by
  have HA := Lib.hid ha
  have HB := Lib.hid hb
  obtain ⟨ma, A, ca, rfl⟩ := ha.bound
  obtain ⟨mb, B, cb, rfl⟩ := hb.bound
  clear ha hb
  obtain ⟨n, hN⟩ : ∃ n, n = xs.length := ⟨_, rfl⟩
  obtain ⟨m, hM⟩ : ∃ m, m = ys.length := ⟨_, rfl⟩
  rw [← hN] at ma HA
  rw [← hM] at mb HB
  rw [← hN, ← hM]
  have HN := Lib.hid hN
  have HM := Lib.hid hM
  clear hN hM
  unfold maxLen at ma mb
  by_cases hl : n = m
  · subst hl
    go_enter Try.func22, Try.ntmps22
    go_wp2_with fail
    go_loopg [5] n (fun k i wr => ∃ j : Nat, j ≤ n ∧ k = n - j ∧ i = .int .i64 j ∧ Hid (xs.take j = ys.take j) ∧ ∃ m, wr = w.drewN m)
    case atStart => exact ⟨0, by omega, rfl, rfl, Lib.hid rfl, 0, rfl⟩
    case round =>
      obtain ⟨j, hj, hk, rfl, HT, m, rfl⟩ := hrel
      have HK := Lib.hid hk
      clear hk
      by_cases hlt : j < n
      · have hx : j < xs.length := by rw [← HN.out]; exact hlt
        have hy : j < ys.length := by rw [← HM.out]; exact hlt
        have ex : xs[j]? = some xs[j] := List.getElem?_eq_getElem hx
        have ey : ys[j]? = some ys[j] := List.getElem?_eq_getElem hy
        obtain ⟨f1, f2, f3⟩ := insCells_get xs j hx
        obtain ⟨g1, g2, g3⟩ := insCells_get ys j hy
        rcases HA.out with ⟨e, h0, _⟩ | ⟨b1, o1, c1, e, _, _, _, d1⟩
        · exact absurd h0 (by omega)
        rcases HB.out with ⟨e', h0, _⟩ | ⟨b2, o2, c2, e', _, _, _, d2⟩
        · exact absurd h0 (by omega)
        injection e with e1 e2 e3
        injection e' with e1' e2' e3'
        subst e1 e3 e1' e3'
        clear e2 e2'
        have p1 : w.cell? ⟨b1, o1 + j * 3, none⟩ = _ := d1 _ _ f1
        have p2 : w.cell? ⟨b1, o1 + j * 3 + 1, none⟩ = _ := d1 _ _ f2
        have p3 : w.cell? ⟨b1, o1 + j * 3 + 2, none⟩ = _ := d1 _ _ f3
        have q1 : w.cell? ⟨b2, o2 + j * 3, none⟩ = _ := d2 _ _ g1
        have q2 : w.cell? ⟨b2, o2 + j * 3 + 1, none⟩ = _ := d2 _ _ g2
        have q3 : w.cell? ⟨b2, o2 + j * 3 + 2, none⟩ = _ := d2 _ _ g3
        have HX := Lib.hid (And.intro ex ey)
        clear ex ey d1 d2 f1 f2 f3 g1 g2 g3
        generalize xs[j] = x at *
        generalize ys[j] = y at *
        obtain ⟨x1, x2, x3⟩ := x
        obtain ⟨y1, y2, y3⟩ := y
        simp only at p1 p2 p3 q1 q2 q3
        have hcs : (x1 = y1 ∧ x2 = y2 ∧ x3 = y3) ∨ (¬ x1 = y1) ∨ (x1 = y1 ∧ ¬ x2 = y2) ∨ (x1 = y1 ∧ x2 = y2 ∧ ¬ x3 = y3) := by
          by_cases e1 : x1 = y1
          · by_cases e2 : x2 = y2
            · by_cases e3 : x3 = y3
              · exact .inl ⟨e1, e2, e3⟩
              · exact .inr (.inr (.inr ⟨e1, e2, e3⟩))
            · exact .inr (.inr (.inl ⟨e1, e2⟩))
          · exact .inr (.inl e1)
        rcases hcs with ⟨rfl, rfl, rfl⟩ | hne | ⟨rfl, hne⟩ | ⟨rfl, rfl, hne⟩
        · go_wp2_with fail
          go_region
          go_wp2_with fail
          go_roundg (n - (j + 1))
          case measure => have := HK.out; omega
          case rel => exact ⟨j + 1, by omega, rfl, by go_num, Lib.hid (by
            obtain ⟨ex, ey⟩ := HX.out
            rw [List.take_add_one, List.take_add_one, HT.out, ex, ey]), m + 1, rfl⟩
        iterate 3
          · go_wp2_with fail
            go_region
            go_wp2_with fail
            go_ret
            refine ⟨?_, m + 1, rfl⟩
            rw [decide_eq_false (fun e => by
              obtain ⟨ex, ey⟩ := HX.out
              rw [e, ey] at ex
              injection ex with ex
              injection ex with ex1 ex2 ex3
              first | exact hne ex1.symm | exact hne ex2.symm | exact hne ex3.symm)]
            rfl
      · go_wp2_with fail
        go_ret
        refine ⟨?_, m, rfl⟩
        have : j = xs.length := by rw [← HN.out]; omega
        have h := HT.out
        rw [this, List.take_length, ← HN.out, HM.out, List.take_length] at h
        rw [decide_eq_true h]
        rfl
  · go_enter Try.func22, Try.ntmps22
    go_wp2_with fail
    go_ret
    refine ⟨?_, 0, rfl⟩
    rw [decide_eq_false (fun e => hl (by rw [HN.out, HM.out, e]))]
    rfl
end Go.Proofs.Ythmjmggeihonnaa
