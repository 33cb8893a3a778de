/- Rows of functions and of numbers; law16.rows, law17.rows. (Picked out of other texts: gen_rparts.py.) -/
import Derived.Test.YtahmnmpfjgddpaaGreatDoorIntO
import Derived.BigQuiet
import Derived.Deep.AppendLies
import Derived.Handy
namespace Go.Proofs.YtahmnmpfjgddpaaGreatDoor
set_option linter.unusedVariables false
set_option linter.unusedSimpArgs false
open Go.RowKit

theorem drewN_add (w : World) (a b : Nat) : (w.drewN a).drewN b = w.drewN (a + b) := by unfold World.drewN; simp only [Nat.add_assoc]
theorem NumSrc.get {w : World} {A : Option Addr} {n c : Nat} {l : List Int} (h : NumSrc w (.slice A n c) l) : n = l.length ∧ n ≤ c ∧ c ≤ maxLen ∧ ∀ (j : Nat) (hj : j < l.length), ∃ b off, A = some ⟨b, off, none⟩ ∧ w.cell? ⟨b, off + j, none⟩ = some (.int .i64 l[j]) := by
  obtain ⟨A', c', e, h1, h2, h3⟩ := h
  injection e with e1 e2 e3
  subst e1 e2 e3
  refine ⟨rfl, h1, h2, fun j hj => ?_⟩
  obtain ⟨b, off, e, h4⟩ := h3 (by omega)
  exact ⟨b, off, e, h4 j _ (List.getElem?_eq_getElem hj)⟩
theorem NumSrc.shape {w : World} {V : Value} {l : List Int} (h : NumSrc w V l) : ∃ A c, V = .slice A l.length c := by
  obtain ⟨A, c, e, _⟩ := h
  exact ⟨A, c, e⟩
theorem NumSrc.take {w : World} {A : Option Addr} {c : Nat} {l : List Int} (h : NumSrc w (.slice A l.length c) l) (j : Nat) (hj : j ≤ l.length) : NumSrc w (.slice A j c) (l.take j) := by
  obtain ⟨A', c', e, h1, h2, h3⟩ := h
  injection e with e1 e2 e3
  subst e1 e3
  have e : (l.take j).length = j := by rw [List.length_take]; omega
  refine ⟨A, c, by rw [e], by rw [e]; omega, h2, fun h0 => ?_⟩
  rw [e] at h0
  obtain ⟨b, off, rfl, h4⟩ := h3 (by omega)
  refine ⟨b, off, rfl, fun i x hx => h4 i x ?_⟩
  rw [List.getElem?_take] at hx
  split at hx
  · exact hx
  · cases hx
theorem infoFn : (Tryz.prog.info? 31).map (fun i => (i.zero, i.size, i.bytes)) = some (some (.agg #[.string ByteArray.empty, .int .i64 0, .int .i64 0, .int .i64 0, .slice none 0 0]), 5, 64) := by kernel_rfl
def fewf (f : FnR) : FnR := { f with l := f.l.take 200 }
def fewv (fs : List FnR) : List FnR := (fs.take 6).map fewf
/-- the cells of a row of functions -/
def FnCells (w : World) (fs : List FnR) (xs : List Value) : Prop :=
  ∀ (j : Nat) f, fs[j]? = some f → ∃ A c, (xs[j * 5]? = some (.string f.nm) ∧ xs[j * 5 + 1]? = some (.int .i64 f.ps) ∧ xs[j * 5 + 2]? = some (.int .i64 f.vs) ∧ xs[j * 5 + 3]? = some (.int .i64 f.ar) ∧ xs[j * 5 + 4]? = some (.slice A f.l.length c)) ∧ Src w (.slice A f.l.length c) f.l.length (insCells f.l)
theorem FnCells.keep {w w' : World} {fs : List FnR} {xs : List Value} (h : FnCells w fs xs) (hb : Below w.heap.size w w') : FnCells w' fs xs := fun j f hf => by
  obtain ⟨A, c, h1, h2⟩ := h j f hf
  exact ⟨A, c, h1, h2.keepB hb⟩
theorem FnCells.snoc {w : World} {fs : List FnR} {xs : List Value} {f : FnR} {A : Option Addr} {c : Nat} (h : FnCells w fs xs) (hl : xs.length = fs.length * 5) (hs : Src w (.slice A f.l.length c) f.l.length (insCells f.l)) :
    FnCells w (fs ++ [f]) (xs ++ [.string f.nm, .int .i64 f.ps, .int .i64 f.vs, .int .i64 f.ar, .slice A f.l.length c]) := fun j g hg => by
  by_cases hj : j < fs.length
  · rw [List.getElem?_append_left hj] at hg
    obtain ⟨B, d, ⟨h0, h1, h2, h3, h4⟩, h5⟩ := h j g hg
    refine ⟨B, d, ⟨?_, ?_, ?_, ?_, ?_⟩, h5⟩ <;> (rw [List.getElem?_append_left (by omega)]; assumption)
  · rw [List.getElem?_append_right (by omega)] at hg
    obtain ⟨rfl, rfl⟩ : j = fs.length ∧ g = f := by
      have h1 : j - fs.length = 0 := by
        have := (List.getElem?_eq_some_iff.1 hg).1
        simp at this
        omega
      rw [h1] at hg
      injection hg with hg
      exact ⟨by omega, hg.symm⟩
    refine ⟨A, c, ⟨?_, ?_, ?_, ?_, ?_⟩, hs⟩ <;> (rw [List.getElem?_append_right (by omega), hl]; simp [Nat.add_sub_cancel_left])
theorem FnsIs.of_row {w : World} {fs : List FnR} {xs : List Value} {V : Value} (h : w.ownsRow 0 31 5 V fs.length xs) (hx : FnCells w fs xs) : FnsIs w V fs := by
  rcases h.2 with ⟨rfl, h0⟩ | ⟨g, cap, cur, rfl, hb, hh, h1, h2, h3, h4⟩
  · have : fs = [] := List.eq_nil_of_length_eq_zero h0
    subst this
    exact .inl ⟨rfl, none, 0, rfl⟩
  · refine .inr ⟨g, 0, cap, rfl, lt_of_heap hh, h1, h2, fun j f hf => ?_⟩
    have hj : j < fs.length := (List.getElem?_eq_some_iff.1 hf).1
    obtain ⟨A, c, ⟨c0, c1, c2, c3, c4⟩, hs⟩ := hx j f hf
    have hcell : ∀ (i : Nat) u, i < fs.length * 5 → xs[i]? = some u → w.cell? ⟨g, 0 + i, none⟩ = some u := fun i u hi hu => by
      rw [Nat.zero_add, cell_of_block hh]
      rw [← h4, List.getElem?_take, if_pos hi, Array.getElem?_toList] at hu
      exact hu
    refine ⟨A, c, ⟨?_, ?_, ?_, ?_, ?_⟩, hs⟩
    · exact hcell _ _ (by omega) c0
    · have := hcell _ _ (by omega) c1; rwa [Nat.zero_add] at this ⊢
    · have := hcell _ _ (by omega) c2; rwa [Nat.zero_add] at this ⊢
    · have := hcell _ _ (by omega) c3; rwa [Nat.zero_add] at this ⊢
    · have := hcell _ _ (by omega) c4; rwa [Nat.zero_add] at this ⊢
theorem Src.takeI {w : World} {A : Option Addr} {c : Nat} {l : List InsR} (h : Src w (.slice A l.length c) l.length (insCells l)) (m : Nat) (hm : m ≤ l.length) : Src w (.slice A m c) m (insCells (l.take m)) := by
  rcases h with ⟨_, h0, _⟩ | ⟨b, off, cap, e, hb, h1, h2, h3⟩
  · have : m = 0 := by omega
    subst this
    exact .inl ⟨⟨A, c, rfl⟩, rfl, rfl⟩
  · injection e with e1 e2 e3
    subst e1 e3
    refine .inr ⟨b, off, c, rfl, hb, by omega, by omega, fun j u hu => h3 j u ?_⟩
    have : insCells l = insCells (l.take m) ++ insCells (l.drop m) := by rw [← insCells_append, List.take_append_drop]
    rw [this, List.getElem?_append_left (List.getElem?_eq_some_iff.1 hu).1]
    exact hu
theorem Src.cap {w : World} {A : Option Addr} {n c : Nat} {cs : List Value} (h : Src w (.slice A n c) n cs) : n ≤ maxLen ∧ n ≤ c := by
  rcases h with ⟨_, h0, _⟩ | ⟨b, off, cap, e, hb, h1, h2, h3⟩
  · subst h0; exact ⟨Nat.zero_le _, Nat.zero_le _⟩
  · injection e with _ _ e; subst e; exact ⟨h2, h1⟩
theorem fewv_snoc {fs : List FnR} {j : Nat} (hj : j < fs.length) (h6 : j < 6) : fewv (fs.take (j + 1)) = fewv (fs.take j) ++ [fewf fs[j]] := by
  unfold fewv
  rw [List.take_take, List.take_take, Nat.min_eq_right (by omega), Nat.min_eq_right (by omega), List.take_succ_eq_append_getElem hj, List.map_append]
  rfl
theorem fewv_len {fs : List FnR} {j : Nat} (hj : j ≤ fs.length) (h6 : j ≤ 6) : (fewv (fs.take j)).length = j := by
  unfold fewv
  rw [List.length_map, List.length_take, List.length_take]
  omega
theorem fewv_bound (fs : List FnR) : (fewv fs).length ≤ 1048576 ∧ ∀ f ∈ fewv fs, f.l.length ≤ 1048576 := by
  unfold fewv
  refine ⟨by rw [List.length_map, List.length_take]; omega, fun f hf => ?_⟩
  obtain ⟨g, _, rfl⟩ := List.mem_map.1 hf
  show (g.l.take 200).length ≤ _
  rw [List.length_take]
  omega
theorem outIs_shape {w : World} {v : Value} {o : OutR} (h : OutIs w v o) : ∃ AP cP AK cK AC cC, v = .agg #[.slice AP o.pr.length cP, .slice AK o.ke.length cK, .slice AC o.cl.length cC, .int .i64 o.clk, .int .i64 o.res, .int .i64 o.err] ∧ NumSrc w (.slice AP o.pr.length cP) o.pr ∧ NumSrc w (.slice AK o.ke.length cK) o.ke ∧ NumSrc w (.slice AC o.cl.length cC) o.cl := by
  obtain ⟨P, K, C, e, h1, h2, h3⟩ := h
  obtain ⟨AP, cP, rfl⟩ := h1.shape
  obtain ⟨AK, cK, rfl⟩ := h2.shape
  obtain ⟨AC, cC, rfl⟩ := h3.shape
  exact ⟨_, _, _, _, _, _, e, h1, h2, h3⟩
theorem belowN {B : Nat} {a w : World} (h : Below B a w) (n : Nat) : Below B a (w.drewN n) := h.trans ⟨rfl, rfl, rfl, Nat.le_refl _, fun _ _ => rfl⟩
theorem NumSrc.drewN {w : World} {V : Value} {l : List Int} (h : NumSrc w V l) (k : Nat) : NumSrc (w.drewN k) V l := h.keep (belowN (Below.refl _ _) k)
set_option maxHeartbeats 4000000 in
set_option maxRecDepth 100000 in
theorem rows16_any {w : World} {v1 v2 : Value} {xs ys : List Int} (h1 : NumSrc w v1 xs) (h2 : NumSrc w v2 ys) :
    Calls Tryz.prog 10 #[v1, v2] w fun e w' => e = .returned (.bool (decide (xs = ys))) ∧ ∃ k, w' = w.drewN k := by
  obtain ⟨A, c, rfl⟩ := h1.shape
  obtain ⟨B, d, rfl⟩ := h2.shape
  obtain ⟨_, g1, g2, HA⟩ := h1.get
  obtain ⟨_, g3, g4, HB⟩ := h2.get
  have hm1 : xs.length ≤ 9223372036854775807 := by have := g2; unfold maxLen at this; omega
  have HA := Lib.hid HA
  have HB := Lib.hid HB
  clear h1 h2
  obtain ⟨n, hn⟩ : ∃ n, n = xs.length := ⟨_, rfl⟩
  obtain ⟨m, hm⟩ : ∃ m, m = ys.length := ⟨_, rfl⟩
  rw [← hn] at hm1 g1 ⊢
  rw [← hm] at g3 ⊢
  have HN := Lib.hid hn
  have HM := Lib.hid hm
  clear hn hm g2 g4
  by_cases hl : n = m
  · subst hl
    go_enter Tryz.func10, Tryz.ntmps10
    go_wp2_with fail
    go_loopg [5] n (fun k i wr => ∃ j q : Nat, j ≤ n ∧ k = n - j ∧ i = .int .i64 j ∧ Hid (xs.take j = ys.take j) ∧ wr = w.drewN q)
    case atStart => exact ⟨0, 0, by omega, rfl, rfl, Lib.hid rfl, rfl⟩
    case round =>
      obtain ⟨j, q, hj, hk, rfl, HT, rfl⟩ := hrel
      have HK := Lib.hid hk
      clear hk
      by_cases hlt : j < n
      · have hj1 : j < xs.length := by rw [← HN.out]; exact hlt
        have hj2 : j < ys.length := by rw [← HM.out]; exact hlt
        obtain ⟨b1, o1, rfl, c1⟩ := HA.out j hj1
        obtain ⟨b2, o2, rfl, c2⟩ := HB.out j hj2
        obtain ⟨x, hx⟩ : ∃ x, x = xs[j] := ⟨_, rfl⟩
        obtain ⟨y, hy⟩ : ∃ y, y = ys[j] := ⟨_, rfl⟩
        rw [← hx] at c1
        rw [← hy] at c2
        have t1 := List.take_succ_eq_append_getElem hj1
        have t2 := List.take_succ_eq_append_getElem hj2
        rw [← hx] at t1
        rw [← hy] at t2
        have HXY := Lib.hid (And.intro hx hy)
        have HT12 := Lib.hid (And.intro t1 t2)
        clear hx hy t1 t2
        have hjn : (j : Int) < (n : Int) := by omega
        by_cases hxy : x = y
        · subst hxy
          have HT2 : Hid (xs.take (j + 1) = ys.take (j + 1)) := Lib.hid (by rw [HT12.out.1, HT12.out.2, HT.out])
          go_wp2_with fail
          go_quiet (fail)
          go_wp2_with fail
          go_roundg (n - (j + 1))
          case measure => have := HK.out; omega
          case rel => exact ⟨j + 1, _, by omega, rfl, by go_num, HT2, rfl⟩
        · go_wp2_with fail
          go_quiet (fail)
          go_wp2_with fail
          go_ret
          refine ⟨?_, q + nq, drewN_add _ _ _⟩
          rw [decide_eq_false (fun h => hxy (by rw [HXY.out.1, HXY.out.2]; simp only [h]))]
          rfl
      · go_wp2_with fail
        go_ret
        refine ⟨?_, _, rfl⟩
        have e : j = n := by omega
        have h := HT.out
        rw [e] at h
        rw [List.take_of_length_le (by rw [HN.out]; exact Nat.le_refl _), List.take_of_length_le (by rw [HM.out]; exact Nat.le_refl _)] at h
        rw [decide_eq_true h]
        rfl
  · have HL := Lib.hid hl
    have hne : ¬ ((n : Int) = (m : Int)) := by omega
    clear hl
    go_enter Tryz.func10, Tryz.ntmps10
    go_wp2_with fail
    go_ret
    refine ⟨?_, 0, rfl⟩
    rw [decide_eq_false (fun h => HL.out (by rw [HN.out, HM.out, h]))]
    rfl
set_option maxHeartbeats 4000000 in
set_option maxRecDepth 100000 in
theorem rows17_any {w : World} {v1 v2 : Value} {xs ys : List Int} (h1 : NumSrc w v1 xs) (h2 : NumSrc w v2 ys) :
    Calls Tryz.prog 14 #[v1, v2] w fun e w' => e = .returned (.bool (decide (xs = ys))) ∧ ∃ k, w' = w.drewN k := by
  obtain ⟨A, c, rfl⟩ := h1.shape
  obtain ⟨B, d, rfl⟩ := h2.shape
  obtain ⟨_, g1, g2, HA⟩ := h1.get
  obtain ⟨_, g3, g4, HB⟩ := h2.get
  have hm1 : xs.length ≤ 9223372036854775807 := by have := g2; unfold maxLen at this; omega
  have HA := Lib.hid HA
  have HB := Lib.hid HB
  clear h1 h2
  obtain ⟨n, hn⟩ : ∃ n, n = xs.length := ⟨_, rfl⟩
  obtain ⟨m, hm⟩ : ∃ m, m = ys.length := ⟨_, rfl⟩
  rw [← hn] at hm1 g1 ⊢
  rw [← hm] at g3 ⊢
  have HN := Lib.hid hn
  have HM := Lib.hid hm
  clear hn hm g2 g4
  by_cases hl : n = m
  · subst hl
    go_enter Tryz.func14, Tryz.ntmps14
    go_wp2_with fail
    go_loopg [5] n (fun k i wr => ∃ j q : Nat, j ≤ n ∧ k = n - j ∧ i = .int .i64 j ∧ Hid (xs.take j = ys.take j) ∧ wr = w.drewN q)
    case atStart => exact ⟨0, 0, by omega, rfl, rfl, Lib.hid rfl, rfl⟩
    case round =>
      obtain ⟨j, q, hj, hk, rfl, HT, rfl⟩ := hrel
      have HK := Lib.hid hk
      clear hk
      by_cases hlt : j < n
      · have hj1 : j < xs.length := by rw [← HN.out]; exact hlt
        have hj2 : j < ys.length := by rw [← HM.out]; exact hlt
        obtain ⟨b1, o1, rfl, c1⟩ := HA.out j hj1
        obtain ⟨b2, o2, rfl, c2⟩ := HB.out j hj2
        obtain ⟨x, hx⟩ : ∃ x, x = xs[j] := ⟨_, rfl⟩
        obtain ⟨y, hy⟩ : ∃ y, y = ys[j] := ⟨_, rfl⟩
        rw [← hx] at c1
        rw [← hy] at c2
        have t1 := List.take_succ_eq_append_getElem hj1
        have t2 := List.take_succ_eq_append_getElem hj2
        rw [← hx] at t1
        rw [← hy] at t2
        have HXY := Lib.hid (And.intro hx hy)
        have HT12 := Lib.hid (And.intro t1 t2)
        clear hx hy t1 t2
        have hjn : (j : Int) < (n : Int) := by omega
        by_cases hxy : x = y
        · subst hxy
          have HT2 : Hid (xs.take (j + 1) = ys.take (j + 1)) := Lib.hid (by rw [HT12.out.1, HT12.out.2, HT.out])
          go_wp2_with fail
          go_quiet (fail)
          go_wp2_with fail
          go_roundg (n - (j + 1))
          case measure => have := HK.out; omega
          case rel => exact ⟨j + 1, _, by omega, rfl, by go_num, HT2, rfl⟩
        · go_wp2_with fail
          go_quiet (fail)
          go_wp2_with fail
          go_ret
          refine ⟨?_, q + nq, drewN_add _ _ _⟩
          rw [decide_eq_false (fun h => hxy (by rw [HXY.out.1, HXY.out.2]; simp only [h]))]
          rfl
      · go_wp2_with fail
        go_ret
        refine ⟨?_, _, rfl⟩
        have e : j = n := by omega
        have h := HT.out
        rw [e] at h
        rw [List.take_of_length_le (by rw [HN.out]; exact Nat.le_refl _), List.take_of_length_le (by rw [HM.out]; exact Nat.le_refl _)] at h
        rw [decide_eq_true h]
        rfl
  · have HL := Lib.hid hl
    have hne : ¬ ((n : Int) = (m : Int)) := by omega
    clear hl
    go_enter Tryz.func14, Tryz.ntmps14
    go_wp2_with fail
    go_ret
    refine ⟨?_, 0, rfl⟩
    rw [decide_eq_false (fun h => HL.out (by rw [HN.out, HM.out, h]))]
    rfl
end Go.Proofs.YtahmnmpfjgddpaaGreatDoor
