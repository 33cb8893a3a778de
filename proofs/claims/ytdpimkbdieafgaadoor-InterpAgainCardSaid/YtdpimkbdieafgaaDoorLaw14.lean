/- The texts IntP, IntP2, IntQ, IntS, IntS2 in one. -/
import Derived.Test.YtdpimkbdieafgaaDoorMach
import Derived.BigQuiet
import Derived.Deep.AppendLies
import Derived.Handy
namespace Go.Proofs.YtdpimkbdieafgaaDoor
set_option linter.unusedVariables false
set_option linter.unusedSimpArgs false
open Go.RowKit

theorem drewN_add (w : World) (a b : Nat) : (w.drewN a).drewN b = w.drewN (a + b) := by unfold World.drewN; simp only [Nat.add_assoc]
theorem NumSrc.get {w : World} {A : Option Addr} {n c : Nat} {l : List Int} (h : NumSrc w (.slice A n c) l) : n = l.length ∧ n ≤ c ∧ c ≤ maxLen ∧ ∀ (j : Nat) (hj : j < l.length), ∃ b off, A = some ⟨b, off, none⟩ ∧ w.cell? ⟨b, off + j, none⟩ = some (.int .i64 l[j]) := by
  obtain ⟨A', c', e, h1, h2, h3⟩ := h
  injection e with e1 e2 e3
  subst e1 e2 e3
  refine ⟨rfl, h1, h2, fun j hj => ?_⟩
  obtain ⟨b, off, e, h4⟩ := h3 (by omega)
  exact ⟨b, off, e, h4 j _ (List.getElem?_eq_getElem hj)⟩
theorem NumSrc.shape {w : World} {V : Value} {l : List Int} (h : NumSrc w V l) : ∃ A c, V = .slice A l.length c := by
  obtain ⟨A, c, e, _⟩ := h
  exact ⟨A, c, e⟩
theorem NumSrc.take {w : World} {A : Option Addr} {c : Nat} {l : List Int} (h : NumSrc w (.slice A l.length c) l) (j : Nat) (hj : j ≤ l.length) : NumSrc w (.slice A j c) (l.take j) := by
  obtain ⟨A', c', e, h1, h2, h3⟩ := h
  injection e with e1 e2 e3
  subst e1 e3
  have e : (l.take j).length = j := by rw [List.length_take]; omega
  refine ⟨A, c, by rw [e], by rw [e]; omega, h2, fun h0 => ?_⟩
  rw [e] at h0
  obtain ⟨b, off, rfl, h4⟩ := h3 (by omega)
  refine ⟨b, off, rfl, fun i x hx => h4 i x ?_⟩
  rw [List.getElem?_take] at hx
  split at hx
  · exact hx
  · cases hx

set_option maxHeartbeats 4000000 in
set_option maxRecDepth 100000 in
theorem rows_any {w : World} {v1 v2 : Value} {xs ys : List Int} (h1 : NumSrc w v1 xs) (h2 : NumSrc w v2 ys) :
    Calls Tryd.prog 18 #[v1, v2] w fun e w' => e = .returned (.bool (decide (xs = ys))) ∧ ∃ k, w' = w.drewN k := by
  obtain ⟨A, c, rfl⟩ := h1.shape
  obtain ⟨B, d, rfl⟩ := h2.shape
  obtain ⟨_, g1, g2, HA⟩ := h1.get
  obtain ⟨_, g3, g4, HB⟩ := h2.get
  have hm1 : xs.length ≤ 9223372036854775807 := by have := g2; unfold maxLen at this; omega
  have HA := Lib.hid HA
  have HB := Lib.hid HB
  clear h1 h2
  obtain ⟨n, hn⟩ : ∃ n, n = xs.length := ⟨_, rfl⟩
  obtain ⟨m, hm⟩ : ∃ m, m = ys.length := ⟨_, rfl⟩
  rw [← hn] at hm1 g1 ⊢
  rw [← hm] at g3 ⊢
  have HN := Lib.hid hn
  have HM := Lib.hid hm
  clear hn hm g2 g4
  by_cases hl : n = m
  · subst hl
    go_enter Tryd.func18, Tryd.ntmps18
    go_wp2_with fail
    go_loopg [5] n (fun k i wr => ∃ j q : Nat, j ≤ n ∧ k = n - j ∧ i = .int .i64 j ∧ Hid (xs.take j = ys.take j) ∧ wr = w.drewN q)
    case atStart => exact ⟨0, 0, by omega, rfl, rfl, Lib.hid rfl, rfl⟩
    case round =>
      obtain ⟨j, q, hj, hk, rfl, HT, rfl⟩ := hrel
      have HK := Lib.hid hk
      clear hk
      by_cases hlt : j < n
      · have hj1 : j < xs.length := by rw [← HN.out]; exact hlt
        have hj2 : j < ys.length := by rw [← HM.out]; exact hlt
        obtain ⟨b1, o1, rfl, c1⟩ := HA.out j hj1
        obtain ⟨b2, o2, rfl, c2⟩ := HB.out j hj2
        obtain ⟨x, hx⟩ : ∃ x, x = xs[j] := ⟨_, rfl⟩
        obtain ⟨y, hy⟩ : ∃ y, y = ys[j] := ⟨_, rfl⟩
        rw [← hx] at c1
        rw [← hy] at c2
        have t1 := List.take_succ_eq_append_getElem hj1
        have t2 := List.take_succ_eq_append_getElem hj2
        rw [← hx] at t1
        rw [← hy] at t2
        have HXY := Lib.hid (And.intro hx hy)
        have HT12 := Lib.hid (And.intro t1 t2)
        clear hx hy t1 t2
        have hjn : (j : Int) < (n : Int) := by omega
        by_cases hxy : x = y
        · subst hxy
          have HT2 : Hid (xs.take (j + 1) = ys.take (j + 1)) := Lib.hid (by rw [HT12.out.1, HT12.out.2, HT.out])
          go_wp2_with fail
          go_quiet (fail)
          go_wp2_with fail
          go_roundg (n - (j + 1))
          case measure => have := HK.out; omega
          case rel => exact ⟨j + 1, _, by omega, rfl, by go_num, HT2, rfl⟩
        · go_wp2_with fail
          go_quiet (fail)
          go_wp2_with fail
          go_ret
          refine ⟨?_, q + nq, drewN_add _ _ _⟩
          rw [decide_eq_false (fun h => hxy (by rw [HXY.out.1, HXY.out.2]; simp only [h]))]
          rfl
      · go_wp2_with fail
        go_ret
        refine ⟨?_, _, rfl⟩
        have e : j = n := by omega
        have h := HT.out
        rw [e] at h
        rw [List.take_of_length_le (by rw [HN.out]; exact Nat.le_refl _), List.take_of_length_le (by rw [HM.out]; exact Nat.le_refl _)] at h
        rw [decide_eq_true h]
        rfl
  · have HL := Lib.hid hl
    have hne : ¬ ((n : Int) = (m : Int)) := by omega
    clear hl
    go_enter Tryd.func18, Tryd.ntmps18
    go_wp2_with fail
    go_ret
    refine ⟨?_, 0, rfl⟩
    rw [decide_eq_false (fun h => HL.out (by rw [HN.out, HM.out, h]))]
    rfl

set_option maxHeartbeats 4000000 in
set_option maxRecDepth 100000 in
theorem begins_any {w : World} {v1 v2 : Value} {xs ys : List Int} (h1 : NumSrc w v1 xs) (h2 : NumSrc w v2 ys) (hp : xs <+: ys) :
    Calls Tryd.prog 17 #[v1, v2] w fun e w' => e = .returned (.bool true) ∧ ∃ k, w' = w.drewN k := by
  obtain ⟨A, c, rfl⟩ := h1.shape
  obtain ⟨B, d, rfl⟩ := h2.shape
  obtain ⟨_, g1, g2, _⟩ := h1.get
  obtain ⟨_, g3, g4, _⟩ := h2.get
  have hle := hp.length_le
  have hm1 : ys.length ≤ 9223372036854775807 := by have := g4; unfold maxLen at this; omega
  have e : ys.take xs.length = xs := (List.prefix_iff_eq_take.1 hp).symm
  have h3 := h2.take xs.length hle
  rw [e] at h3
  have CR := Lib.hid (rows_any h1 h3)
  rw [decide_eq_true rfl] at CR
  clear h1 h2 h3 e hp
  obtain ⟨n, hn⟩ : ∃ n, n = xs.length := ⟨_, rfl⟩
  obtain ⟨m, hm⟩ : ∃ m, m = ys.length := ⟨_, rfl⟩
  rw [← hn] at hle CR g1 ⊢
  rw [← hm] at hle hm1 g3 ⊢
  clear hn hm
  have hd : d ≤ 9223372036854775807 := by unfold maxLen at g4; omega
  clear g2 g4
  go_enter Tryd.func17, Tryd.ntmps17
  go_wp2_with fail
  refine CR.out.mono ?_; rintro e w1 ⟨rfl, k, rfl⟩
  go_wp2_with fail
  go_ret
  exact ⟨rfl, k, rfl⟩

def sameV (a b : OutR) : Bool := decide (a.pr = b.pr) && decide (a.ke = b.ke) && decide (a.cl = b.cl) && decide (a.clk = b.clk) && decide (a.res = b.res) && decide (a.err = b.err)
theorem sameV_refl (a : OutR) : sameV a a = true := by simp [sameV]
end Go.Proofs.YtdpimkbdieafgaaDoor
namespace Go.Proofs.YtdpimkbdieafgaaDoor
set_option linter.unusedVariables false
set_option linter.unusedSimpArgs false
open Go.RowKit

theorem belowN {B : Nat} {a w : World} (h : Below B a w) (n : Nat) : Below B a (w.drewN n) := h.trans ⟨rfl, rfl, rfl, Nat.le_refl _, fun _ _ => rfl⟩
theorem NumSrc.drewN {w : World} {V : Value} {l : List Int} (h : NumSrc w V l) (k : Nat) : NumSrc (w.drewN k) V l := h.keep (belowN (Below.refl _ _) k)
set_option maxHeartbeats 4000000 in
set_option maxRecDepth 100000 in
theorem same_any {w : World} {v1 v2 : Value} {a b : OutR} (h1 : OutIs w v1 a) (h2 : OutIs w v2 b) :
    Calls Tryd.prog 14 #[v1, v2] w fun e w' => e = .returned (.bool (sameV a b)) ∧ Below w.heap.size w w' := by
  obtain ⟨p1, k1, c1, clk1, res1, err1⟩ := a
  obtain ⟨p2, k2, c2, clk2, res2, err2⟩ := b
  obtain ⟨P1, K1, C1, rfl, hp1, hk1, hc1⟩ := h1
  obtain ⟨P2, K2, C2, rfl, hp2, hk2, hc2⟩ := h2
  simp only at hp1 hk1 hc1 hp2 hk2 hc2
  obtain ⟨AP1, BP1, rfl⟩ := hp1.shape
  obtain ⟨AK1, BK1, rfl⟩ := hk1.shape
  obtain ⟨AC1, BC1, rfl⟩ := hc1.shape
  obtain ⟨AP2, BP2, rfl⟩ := hp2.shape
  obtain ⟨AK2, BK2, rfl⟩ := hk2.shape
  obtain ⟨AC2, BC2, rfl⟩ := hc2.shape
  obtain ⟨wa, hwa⟩ : ∃ z, z = w.alloc (.cells #[.slice AP1 p1.length BP1, .slice AK1 k1.length BK1, .slice AC1 c1.length BC1, .int .i64 clk1, .int .i64 res1, .int .i64 err1] 32) := ⟨_, rfl⟩
  obtain ⟨w0, hw0⟩ : ∃ z, z = wa.alloc (.cells #[.slice AP2 p2.length BP2, .slice AK2 k2.length BK2, .slice AC2 c2.length BC2, .int .i64 clk2, .int .i64 res2, .int .i64 err2] 32) := ⟨_, rfl⟩
  obtain ⟨Q1, hQ1⟩ : ∃ z, z = w.heap.size := ⟨_, rfl⟩
  obtain ⟨Q2, hQ2⟩ : ∃ z, z = wa.heap.size := ⟨_, rfl⟩
  have e2 : Q2 = w.heap.size + 1 := by rw [hQ2, hwa]; show (w.heap.push _).size = _; exact Array.size_push _
  have b0 : Below w.heap.size w w0 := by rw [hw0, hwa]; exact ((Below.refl _ _).alloc (Nat.le_refl _) _).alloc (by rw [← hwa, ← hQ2, e2]; omega) _
  have x1 : w0.heap[Q1]? = some (.cells #[.slice AP1 p1.length BP1, .slice AK1 k1.length BK1, .slice AC1 c1.length BC1, .int .i64 clk1, .int .i64 res1, .int .i64 err1] 32 (0, 0)) := by
    rw [hw0]
    exact ((Chg.refl (fun _ => False) wa).alloc _).heap (by rw [hwa]; exact heap_new' hQ1.symm) (fun x => x)
  have x2 : w0.heap[Q2]? = some (.cells #[.slice AP2 p2.length BP2, .slice AK2 k2.length BK2, .slice AC2 c2.length BC2, .int .i64 clk2, .int .i64 res2, .int .i64 err2] 32 (0, 0)) := by rw [hw0]; exact heap_new' hQ2.symm
  have y10 := cell_of_block x1 0
  have y11 := cell_of_block x1 1
  have y12 := cell_of_block x1 2
  have y13 := cell_of_block x1 3
  have y14 := cell_of_block x1 4
  have y15 := cell_of_block x1 5
  have y20 := cell_of_block x2 0
  have y21 := cell_of_block x2 1
  have y22 := cell_of_block x2 2
  have y23 := cell_of_block x2 3
  have y24 := cell_of_block x2 4
  have y25 := cell_of_block x2 5
  simp at y10 y11 y12 y13 y14 y15 y20 y21 y22 y23 y24 y25
  obtain ⟨rp, hrp⟩ : ∃ r, decide (p1 = p2) = r := ⟨_, rfl⟩
  obtain ⟨rk, hrk⟩ : ∃ r, decide (k1 = k2) = r := ⟨_, rfl⟩
  obtain ⟨rc, hrc⟩ : ∃ r, decide (c1 = c2) = r := ⟨_, rfl⟩
  have CP := Lib.hid (fun (w' : World) (hb : Below w.heap.size w w') => hrp ▸ rows_any (hp1.keep hb) (hp2.keep hb))
  have CK := Lib.hid (fun (w' : World) (hb : Below w.heap.size w w') => hrk ▸ rows_any (hk1.keep hb) (hk2.keep hb))
  have CC := Lib.hid (fun (w' : World) (hb : Below w.heap.size w w') => hrc ▸ rows_any (hc1.keep hb) (hc2.keep hb))
  obtain ⟨R, hR⟩ : ∃ R, R = sameV ⟨p1, k1, c1, clk1, res1, err1⟩ ⟨p2, k2, c2, clk2, res2, err2⟩ := ⟨_, rfl⟩
  have hR2 : R = (rp && rk && rc && decide (clk1 = clk2) && decide (res1 = res2) && decide (err1 = err2)) := by rw [hR, ← hrp, ← hrk, ← hrc]; rfl
  rw [← hR]
  generalize p1.length = lp1 at *
  generalize k1.length = lk1 at *
  generalize c1.length = lc1 at *
  generalize p2.length = lp2 at *
  generalize k2.length = lk2 at *
  generalize c2.length = lc2 at *
  have HR := Lib.hid hR2
  have HB := Lib.hid b0
  have HWE := Lib.hid (And.intro hwa (And.intro hw0 (And.intro e2 hQ1)))
  clear hR hR2 hrp hrk hrc b0 hwa hw0 e2 hQ1 hQ2 hp1 hk1 hc1 hp2 hk2 hc2 x1 x2
  go_enter Tryd.func14, Tryd.ntmps14
  go_upto_region 1 with fail
  rw [← HWE.out.1, ← HWE.out.2.1, ← HWE.out.2.2.1, ← HWE.out.2.2.2]
  go_wp2_with fail
  refine (CP.out w0 HB.out).mono ?_; rintro e ww ⟨rfl, q1, rfl⟩
  cases rp with
  | false =>
    go_wp2_with fail
    go_ret
    obtain rfl : R = false := by rw [HR.out]; simp
    exact ⟨rfl, (belowN HB.out _)⟩
  | true =>
    go_wp2_with fail
    refine (CK.out (w0.drewN q1) (belowN HB.out _)).mono ?_; rintro e ww ⟨rfl, q2, rfl⟩
    cases rk with
    | false =>
      go_wp2_with fail
      go_ret
      obtain rfl : R = false := by rw [HR.out]; simp
      exact ⟨rfl, (belowN HB.out _)⟩
    | true =>
      go_wp2_with fail
      refine (CC.out (w0.drewN (q1 + q2)) (belowN HB.out _)).mono ?_; rintro e ww ⟨rfl, q3, rfl⟩
      cases rc with
      | false =>
        go_wp2_with fail
        go_ret
        obtain rfl : R = false := by rw [HR.out]; simp
        exact ⟨rfl, (belowN HB.out _)⟩
      | true =>
        by_cases h0 : clk1 = clk2
        · subst h0
          by_cases h1 : res1 = res2
          · subst h1
            by_cases h2 : err1 = err2
            · subst h2
              go_wp2_with fail
              go_ret
              obtain rfl : R = true := by rw [HR.out]; simp
              exact ⟨rfl, (belowN HB.out _)⟩
            · have HH := Lib.hid h2
              go_wp2_with fail
              go_ret
              obtain rfl : R = false := by rw [HR.out]; simp [HH.out]
              exact ⟨by first | rfl | (simp [HH.out]), (belowN HB.out _)⟩
          · have HH := Lib.hid h1
            go_wp2_with fail
            go_ret
            obtain rfl : R = false := by rw [HR.out]; simp [HH.out]
            exact ⟨by first | rfl | (simp [HH.out]), (belowN HB.out _)⟩
        · have HH := Lib.hid h0
          go_wp2_with fail
          go_ret
          obtain rfl : R = false := by rw [HR.out]; simp [HH.out]
          exact ⟨by first | rfl | (simp [HH.out]), (belowN HB.out _)⟩
end Go.Proofs.YtdpimkbdieafgaaDoor
namespace Go.Proofs.YtdpimkbdieafgaaDoor
set_option linter.unusedVariables false
set_option linter.unusedSimpArgs false
open Go.RowKit

theorem infoFn : (Tryd.prog.info? 46).map (fun i => (i.zero, i.size, i.bytes)) = some (some (.agg #[.string ByteArray.empty, .int .i64 0, .int .i64 0, .int .i64 0, .slice none 0 0]), 5, 64) := by kernel_rfl
def fewf (f : FnR) : FnR := { f with l := f.l.take 200 }
def fewv (fs : List FnR) : List FnR := (fs.take 6).map fewf
/-- the cells of a row of functions -/
def FnCells (w : World) (fs : List FnR) (xs : List Value) : Prop :=
  ∀ (j : Nat) f, fs[j]? = some f → ∃ A c, (xs[j * 5]? = some (.string f.nm) ∧ xs[j * 5 + 1]? = some (.int .i64 f.ps) ∧ xs[j * 5 + 2]? = some (.int .i64 f.vs) ∧ xs[j * 5 + 3]? = some (.int .i64 f.ar) ∧ xs[j * 5 + 4]? = some (.slice A f.l.length c)) ∧ Src w (.slice A f.l.length c) f.l.length (insCells f.l)
theorem FnCells.keep {w w' : World} {fs : List FnR} {xs : List Value} (h : FnCells w fs xs) (hb : Below w.heap.size w w') : FnCells w' fs xs := fun j f hf => by
  obtain ⟨A, c, h1, h2⟩ := h j f hf
  exact ⟨A, c, h1, h2.keepB hb⟩
theorem FnCells.snoc {w : World} {fs : List FnR} {xs : List Value} {f : FnR} {A : Option Addr} {c : Nat} (h : FnCells w fs xs) (hl : xs.length = fs.length * 5) (hs : Src w (.slice A f.l.length c) f.l.length (insCells f.l)) :
    FnCells w (fs ++ [f]) (xs ++ [.string f.nm, .int .i64 f.ps, .int .i64 f.vs, .int .i64 f.ar, .slice A f.l.length c]) := fun j g hg => by
  by_cases hj : j < fs.length
  · rw [List.getElem?_append_left hj] at hg
    obtain ⟨B, d, ⟨h0, h1, h2, h3, h4⟩, h5⟩ := h j g hg
    refine ⟨B, d, ⟨?_, ?_, ?_, ?_, ?_⟩, h5⟩ <;> (rw [List.getElem?_append_left (by omega)]; assumption)
  · rw [List.getElem?_append_right (by omega)] at hg
    obtain ⟨rfl, rfl⟩ : j = fs.length ∧ g = f := by
      have h1 : j - fs.length = 0 := by
        have := (List.getElem?_eq_some_iff.1 hg).1
        simp at this
        omega
      rw [h1] at hg
      injection hg with hg
      exact ⟨by omega, hg.symm⟩
    refine ⟨A, c, ⟨?_, ?_, ?_, ?_, ?_⟩, hs⟩ <;> (rw [List.getElem?_append_right (by omega), hl]; simp [Nat.add_sub_cancel_left])
theorem FnsIs.of_row {w : World} {fs : List FnR} {xs : List Value} {V : Value} (h : w.ownsRow 0 46 5 V fs.length xs) (hx : FnCells w fs xs) : FnsIs w V fs := by
  rcases h.2 with ⟨rfl, h0⟩ | ⟨g, cap, cur, rfl, hb, hh, h1, h2, h3, h4⟩
  · have : fs = [] := List.eq_nil_of_length_eq_zero h0
    subst this
    exact .inl ⟨rfl, none, 0, rfl⟩
  · refine .inr ⟨g, 0, cap, rfl, lt_of_heap hh, h1, h2, fun j f hf => ?_⟩
    have hj : j < fs.length := (List.getElem?_eq_some_iff.1 hf).1
    obtain ⟨A, c, ⟨c0, c1, c2, c3, c4⟩, hs⟩ := hx j f hf
    have hcell : ∀ (i : Nat) u, i < fs.length * 5 → xs[i]? = some u → w.cell? ⟨g, 0 + i, none⟩ = some u := fun i u hi hu => by
      rw [Nat.zero_add, cell_of_block hh]
      rw [← h4, List.getElem?_take, if_pos hi, Array.getElem?_toList] at hu
      exact hu
    refine ⟨A, c, ⟨?_, ?_, ?_, ?_, ?_⟩, hs⟩
    · exact hcell _ _ (by omega) c0
    · have := hcell _ _ (by omega) c1; rwa [Nat.zero_add] at this ⊢
    · have := hcell _ _ (by omega) c2; rwa [Nat.zero_add] at this ⊢
    · have := hcell _ _ (by omega) c3; rwa [Nat.zero_add] at this ⊢
    · have := hcell _ _ (by omega) c4; rwa [Nat.zero_add] at this ⊢
theorem Src.takeI {w : World} {A : Option Addr} {c : Nat} {l : List InsR} (h : Src w (.slice A l.length c) l.length (insCells l)) (m : Nat) (hm : m ≤ l.length) : Src w (.slice A m c) m (insCells (l.take m)) := by
  rcases h with ⟨_, h0, _⟩ | ⟨b, off, cap, e, hb, h1, h2, h3⟩
  · have : m = 0 := by omega
    subst this
    exact .inl ⟨⟨A, c, rfl⟩, rfl, rfl⟩
  · injection e with e1 e2 e3
    subst e1 e3
    refine .inr ⟨b, off, c, rfl, hb, by omega, by omega, fun j u hu => h3 j u ?_⟩
    have : insCells l = insCells (l.take m) ++ insCells (l.drop m) := by rw [← insCells_append, List.take_append_drop]
    rw [this, List.getElem?_append_left (List.getElem?_eq_some_iff.1 hu).1]
    exact hu
theorem Src.cap {w : World} {A : Option Addr} {n c : Nat} {cs : List Value} (h : Src w (.slice A n c) n cs) : n ≤ maxLen ∧ n ≤ c := by
  rcases h with ⟨_, h0, _⟩ | ⟨b, off, cap, e, hb, h1, h2, h3⟩
  · subst h0; exact ⟨Nat.zero_le _, Nat.zero_le _⟩
  · injection e with _ _ e; subst e; exact ⟨h2, h1⟩
theorem fewv_snoc {fs : List FnR} {j : Nat} (hj : j < fs.length) (h6 : j < 6) : fewv (fs.take (j + 1)) = fewv (fs.take j) ++ [fewf fs[j]] := by
  unfold fewv
  rw [List.take_take, List.take_take, Nat.min_eq_right (by omega), Nat.min_eq_right (by omega), List.take_succ_eq_append_getElem hj, List.map_append]
  rfl
theorem fewv_len {fs : List FnR} {j : Nat} (hj : j ≤ fs.length) (h6 : j ≤ 6) : (fewv (fs.take j)).length = j := by
  unfold fewv
  rw [List.length_map, List.length_take, List.length_take]
  omega

structure FewIs (w wr : World) (Q1 Q2 Q3 : Nat) (V Vo : Value) (fs : List FnR) (j : Nat) : Prop where
  x1 : wr.heap[Q1]? = some (.cells #[V] 24 (0, 0))
  x2 : wr.heap[Q2]? = some (.cells #[.slice none 0 0] 24 (0, 0))
  x3 : wr.heap[Q3]? = some (.cells #[Vo] 24 (0, 0))
  row : ∃ xs, wr.ownsRow 0 46 5 Vo j xs ∧ FnCells w (fewv (fs.take j)) xs
  far : ∀ k, Vo.ownBlock = some k → Q3 < k
  bel : Below w.heap.size w wr
set_option maxHeartbeats 8000000 in
set_option maxRecDepth 100000 in
theorem few_any {w : World} {A : Option Addr} {n c : Nat} {fs : List FnR} (hfs : FnsIs w (.slice A n c) fs) (hn : n = fs.length) :
    Calls Tryd.prog 11 #[.agg #[.slice A n c]] w fun e w' => ∃ V, e = .returned (.agg #[V]) ∧ FnsIs w' V (fewv fs) ∧ Below w.heap.size w w' := by
  have hnm : n ≤ 9223372036854775807 := by have := hfs.bound.1; unfold maxLen at this; omega
  obtain ⟨wa, hwa⟩ : ∃ z, z = w.alloc (.cells #[.slice A n c] 24) := ⟨_, rfl⟩
  obtain ⟨wb, hwb⟩ : ∃ z, z = wa.alloc (.cells #[.slice none 0 0] 24) := ⟨_, rfl⟩
  obtain ⟨w0, hw0⟩ : ∃ z, z = wb.alloc (.cells #[.slice none 0 0] 24) := ⟨_, rfl⟩
  obtain ⟨Q1, hQ1⟩ : ∃ z, z = w.heap.size := ⟨_, rfl⟩
  obtain ⟨Q2, hQ2⟩ : ∃ z, z = wa.heap.size := ⟨_, rfl⟩
  obtain ⟨Q3, hQ3⟩ : ∃ z, z = wb.heap.size := ⟨_, rfl⟩
  have e2 : Q2 = w.heap.size + 1 := by rw [hQ2, hwa]; show (w.heap.push _).size = _; exact Array.size_push _
  have e3 : Q3 = w.heap.size + 1 + 1 := by rw [hQ3, hwb]; show (wa.heap.push _).size = _; rw [Array.size_push, ← hQ2, e2]
  have ca : Chg (fun _ => False) w wa := by rw [hwa]; exact (Chg.refl _ _).alloc _
  have cb : Chg (fun _ => False) wa wb := by rw [hwb]; exact (Chg.refl _ _).alloc _
  have c0 : Chg (fun _ => False) wb w0 := by rw [hw0]; exact (Chg.refl _ _).alloc _
  have x1 : w0.heap[Q1]? = some (.cells #[.slice A n c] 24 (0, 0)) := (cb.then c0).heap (by rw [hwa]; exact heap_new' hQ1.symm) (fun x => x)
  have x2 : w0.heap[Q2]? = some (.cells #[.slice none 0 0] 24 (0, 0)) := c0.heap (by rw [hwb]; exact heap_new' hQ2.symm) (fun x => x)
  have x3 : w0.heap[Q3]? = some (.cells #[.slice none 0 0] 24 (0, 0)) := by rw [hw0]; exact heap_new' hQ3.symm
  have b0 : Below w.heap.size w w0 := ((ca.then cb).then c0).below (fun k h => h.elim) (Nat.le_refl _)
  have y1 := cell_of_block x1 0
  simp at y1
  have HB0 := Lib.hid b0
  have HX := Lib.hid (And.intro x1 (And.intro x2 x3))
  have HQ := Lib.hid (And.intro hQ1 (And.intro e2 e3))
  have HWE := Lib.hid (And.intro hwa (And.intro hwb (And.intro hw0 (And.intro e3 (And.intro e2 hQ1)))))
  have HFS := Lib.hid hfs
  have HN := Lib.hid hn
  clear hwa hwb hw0 hQ1 hQ2 hQ3 e2 e3 ca cb c0 x1 x2 x3 b0 hfs hn
  go_enter Tryd.func11, Tryd.ntmps11
  go_upto_region 2 with fail
  rw [← HWE.out.1, ← HWE.out.2.1, ← HWE.out.2.2.1, ← HWE.out.2.2.2.1, ← HWE.out.2.2.2.2.1, ← HWE.out.2.2.2.2.2]
  have HST : Hid (FewIs w w0 Q1 Q2 Q3 (.slice A n c) (.slice none 0 0) fs 0) := Lib.hid ⟨HX.out.1, HX.out.2.1, HX.out.2.2, ⟨[], World.ownsRow_nil _ _ _ _, fun j f hf => by simp [fewv] at hf⟩, (fun k h => by cases h), HB0.out⟩
  clear y1
  go_wp2_with fail
  go_loopg [4] 6 (fun k i wr => ∃ (j : Nat) (Vo : Value), j ≤ n ∧ j ≤ 6 ∧ k = 6 - j ∧ i = .int .i64 j ∧ Hid (FewIs w wr Q1 Q2 Q3 (.slice A n c) Vo fs j))
  case atStart => exact ⟨0, _, by omega, by omega, rfl, rfl, HST⟩
  case round =>
    obtain ⟨j, Vo, hjn, hj6, hk, rfl, HI⟩ := hrel
    have HK := Lib.hid hk
    clear hk
    have y1 := cell_of_block HI.out.x1 0
    simp at y1
    by_cases hjl : j < n
    · by_cases hj : j < 6
      · have hjf : j < fs.length := by rw [← HN.out]; exact hjl
        obtain ⟨b, off, cap, B, cB, e, hb, hcap, ⟨q0, q1, q2, q3, q4⟩, hsrc⟩ := HFS.out.get j hjf
        injection e with e1 e3 e2
        subst e1 e2
        clear e3
        have hkc := Below.chg HI.out.bel
        have q0 := hkc.cell q0 (fun x => x)
        have q1 := hkc.cell q1 (fun x => x)
        have q2 := hkc.cell q2 (fun x => x)
        have q3 := hkc.cell q3 (fun x => x)
        have q4 := hkc.cell q4 (fun x => x)
        obtain ⟨f, hf⟩ : ∃ f, f = fs[j] := ⟨_, rfl⟩
        rw [← hf] at q0 q1 q2 q3 q4 hsrc
        obtain ⟨nm, ps, vs, ar, l⟩ := f
        simp only at q0 q1 q2 q3 q4 hsrc
        obtain ⟨ln, hln⟩ : ∃ ln, ln = l.length := ⟨_, rfl⟩
        obtain ⟨m2, hm2⟩ : ∃ m2 : Nat, (if (200 : Int) < (ln : Int) then (200 : Int) else (ln : Int)) = (m2 : Int) := ⟨(if (200 : Int) < (ln : Int) then (200 : Int) else (ln : Int)).toNat, by split <;> omega⟩
        have hm2l : m2 ≤ ln ∧ m2 ≤ 200 ∧ (m2 = 200 ∨ m2 = ln) := by split at hm2 <;> omega
        have hcp := hsrc.cap
        have hst := hsrc.takeI m2 (by rw [← hln]; exact hm2l.1)
        rw [← hln] at q4 hcp
        rw [← HN.out] at hcap
        obtain ⟨w1, hw1⟩ : ∃ z, z = wr.alloc (.cells #[.string nm, .int .i64 ps, .int .i64 vs, .int .i64 ar, .slice B ln cB] 46) := ⟨_, rfl⟩
        obtain ⟨P, hP⟩ : ∃ z, z = wr.heap.size := ⟨_, rfl⟩
        have d1 : Chg (fun _ => False) wr w1 := by rw [hw1]; exact (Chg.refl _ _).alloc _
        have p1 : w1.heap[P]? = some (.cells #[.string nm, .int .i64 ps, .int .i64 vs, .int .i64 ar, .slice B ln cB] 46 (0, 0)) := by rw [hw1]; exact heap_new' hP.symm
        have t4 := cell_of_block p1 4
        have ff4 := frozen_of_block p1 4
        obtain ⟨w2, hw2⟩ : ∃ z, z = w1.setCell ⟨P, 4, none⟩ (.slice B m2 cB) := ⟨_, rfl⟩
        have d2 : Chg (fun k => k = P) w1 w2 := by rw [hw2]; exact Chg.set_cell (w := w1) ⟨P, 4, none⟩ _
        have p2 := heap_set p1 4 (.slice B m2 cB)
        rw [← hw2] at p2
        have s0 := cell_of_block p2 0
        have s1 := cell_of_block p2 1
        have s2 := cell_of_block p2 2
        have s3 := cell_of_block p2 3
        have s4 := cell_of_block p2 4
        have hQP : Q3 < P := by rw [hP]; exact lt_of_heap HI.out.x3
        have z3 := cell_of_block (d2.heap (d1.heap HI.out.x3 (fun x => x)) (fun e => by omega)) 0
        simp at t4 s0 s1 s2 s3 s4 z3
        have hcl : cB ≤ 9223372036854775807 ∨ True := .inr trivial
        have HW := Lib.hid (And.intro hw1 (And.intro hP hw2))
        have HD := Lib.hid (And.intro d1 d2)
        have HF := Lib.hid (And.intro hf hln)
        have HS := Lib.hid (And.intro hsrc hst)
        have HM := Lib.hid hm2l
        have hm2c : m2 ≤ cB := by omega
        have hmm := hm2l.1
        have hln63 : ln ≤ 9223372036854775807 := by have := hcp.1; unfold maxLen at this; omega
        clear hw1 hP hw2 d1 d2 hf hln hsrc hst hm2l hcl p1 p2 hb hcp hkc
        go_upto_region 6 with fail
        rw [← HW.out.1, ← HW.out.2.1]
        clear q0 q1 q2 q3 q4 y1 hcap
        go_upto_region 7 with fail
        rw [← HW.out.2.2]
        obtain ⟨xs, hown, hcl⟩ := HI.out.row
        have d12 : Chg (fun k => k = P) wr w2 := (HD.out.1.mono (fun _ _ x => x.elim)).then HD.out.2
        have hVP : ∀ k, Vo.ownBlock = some k → k ≠ P := fun k hk e => by
          have h1 := ownsRow_lt hown k hk
          rw [e, HW.out.2.1] at h1
          omega
        have hown2 := ownsRow_kept hown d12 (fun k hk e => hVP k hk e)
        have hPw : w.heap.size ≤ P := by rw [HW.out.2.1]; exact HI.out.bel.size
        have hb2 : Below w.heap.size wr w2 := d12.below (fun k e => by rw [e]; exact hPw) HI.out.bel.size
        obtain ⟨_, AV, cV, rfl⟩ := ownsRow_slice hown
        obtain ⟨wx, hwx⟩ : ∃ z, z = w2.alloc (.cells #[.string nm, .int .i64 ps, .int .i64 vs, .int .i64 ar, .slice B m2 cB] 46) := ⟨_, rfl⟩
        have hcx : Chg (fun _ => False) w2 wx := by rw [hwx]; exact (Chg.refl _ _).alloc _
        have HROW : Hid (wx.ownsRow 0 46 5 (.slice AV j cV) j xs) := Lib.hid (ownsRow_kept hown2 hcx (fun _ _ x => x))
        have HNEW : Hid (∀ (i : Nat) u, ([.string nm, .int .i64 ps, .int .i64 vs, .int .i64 ar, .slice B m2 cB] : List Value)[i]? = some u → wx.cell? ((⟨w2.heap.size, 0, none⟩ : Addr).add i) = some u) := Lib.hid (World.news_of_block (cs := #[.string nm, .int .i64 ps, .int .i64 vs, .int .i64 ar, .slice B m2 cB]) (t := 46) (fr := (0, 0)) (by rw [hwx]; exact heap_new _ _))
        have HSZ : Hid (wx.heap.size = w2.heap.size + 1) := Lib.hid (by rw [hwx]; simp)
        obtain ⟨i0, hi, hz0, hz1, hz2⟩ := info_parts infoFn
        have g1 := HI.out.x1
        have g2 := HI.out.x2
        have g3 := HI.out.x3
        have lt3 := lt_of_heap g3
        have hwP : P = wr.heap.size := HW.out.2.1
        have hQ := HQ.out
        have dx : Chg (fun k => k = P) wr wx := d12.then (hcx.mono (fun _ _ x => x.elim))
        have HG : Hid (wx.heap[Q1]? = some (.cells #[.slice (some ⟨b, off, none⟩) n c] 24 (0, 0)) ∧ wx.heap[Q2]? = some (.cells #[.slice none 0 0] 24 (0, 0)) ∧ wx.heap[Q3]? = some (.cells #[.slice AV j cV] 24 (0, 0))) := Lib.hid ⟨dx.heap g1 (fun e => by omega), dx.heap g2 (fun e => by omega), dx.heap g3 (fun e => by omega)⟩
        have HX2 := Lib.hid (And.intro hb2 (And.intro hcl (And.intro hwP (And.intro lt3 (And.intro hcx hPw)))))
        have HVF := Lib.hid HI.out.far
        have HWX := Lib.hid hwx
        clear hown hcl d12 hVP hown2 hPw hb2 hwx hcx g1 g2 g3 lt3 hwP hQ dx
        go_wp2_with (at_builtin; rw [← HWX.out]; refine wpList_append_lies _ rfl _ _ _ rfl 0 46 i0 _ 5 64 Tryd.underlying22 hi hz0 hz1 hz2 rfl (by omega) (.slice AV j cV) j xs rfl HROW.out ⟨w2.heap.size, 0, none⟩ 1 1 [.string nm, .int .i64 ps, .int .i64 vs, .int .i64 ar, .slice B m2 cB] rfl rfl HNEW.out (by simp [Value.oneCell']) (by omega) (by unfold maxLen; omega) (by omega) (by omega) (w2.heap.size + 1) HSZ.out ?_; intro g5 cap5 w5 hown5 hgrow5 hat5 hlt5; have hc5 := Chg.of_grown hgrow5; have hg5 : ∀ k, k ≤ Q3 → ¬ (Value.slice AV j cV).ownBlock = some k := (fun k hk e => by have := HVF.out k e; omega); have hb5 := hc5.heap HG.out.2.2 (hg5 Q3 (Nat.le_refl _)); have k0 := cell_of_block hb5 0; have kf := frozen_of_block hb5 0; simp at k0; have HC5 := Lib.hid (And.intro hown5 (And.intro hc5 (And.intro hat5 (And.intro hg5 (And.intro hb5 hlt5))))); clear hown5 hgrow5 hat5 hlt5 hc5 hg5 hb5)
        have hset := Chg.set_cell (w := w5) ⟨Q3, 0, none⟩ (.slice (some ⟨g5, 0, none⟩) (j + 1) cap5)
        have hg3 : Q3 < g5 := by
          have h1 := HX2.out.2.2.2.1
          have h2 := HX2.out.2.2.1
          rcases HC5.out.2.2.1 with e | e
          · exact HVF.out g5 e
          · have := HD.out.1.size
            have := HD.out.2.size
            omega
        have HN2 : Hid (FewIs w (w5.setCell ⟨Q3, 0, none⟩ (.slice (some ⟨g5, 0, none⟩) (j + 1) cap5)) Q1 Q2 Q3 (.slice (some ⟨b, off, none⟩) n c) (.slice (some ⟨g5, 0, none⟩) (j + 1) cap5) fs (j + 1)) := Lib.hid (by
          have hQ := HQ.out
          refine ⟨hset.heap (HC5.out.2.1.heap HG.out.1 (HC5.out.2.2.2.1 Q1 (by omega))) (fun e => by have e : Q1 = Q3 := e; omega), hset.heap (HC5.out.2.1.heap HG.out.2.1 (HC5.out.2.2.2.1 Q2 (by omega))) (fun e => by have e : Q2 = Q3 := e; omega), heap_set HC5.out.2.2.2.2.1 0 _, ⟨_, ownsRow_kept HC5.out.1 hset (fun k hk e => by
            have hk : some g5 = some k := hk
            have e : k = Q3 := e
            injection hk with hk
            omega), ?_⟩, fun k hk => by
            have hk : some g5 = some k := hk
            injection hk with hk
            omega, ?_⟩
          · have hjf : j < fs.length := by rw [← HN.out]; exact hjl
            rw [fewv_snoc hjf hj, ← HF.out.1]
            have hlen : (l.take 200).length = m2 := by
              rw [List.length_take, ← HF.out.2]
              have := HM.out
              omega
            have htk : l.take 200 = l.take m2 := by
              rcases HM.out.2.2 with e | e
              · rw [e]
              · rw [e, HF.out.2, List.take_length, List.take_of_length_le (by rw [← HF.out.2]; have := HM.out; omega)]
            have hs := HS.out.2
            rw [← htk] at hs
            have h := FnCells.snoc (f := ⟨nm, ps, vs, ar, l.take 200⟩) (A := B) (c := cB) HX2.out.2.1 (by rw [fewv_len (by omega) (by omega)]; exact HROW.out.1) (by simp only; rw [hlen]; exact hs)
            simp only at h
            rw [hlen] at h
            exact h
          · have h1 : Below w.heap.size wr w2 := HX2.out.1
            have h2 : Below w.heap.size w2 wx := HX2.out.2.2.2.2.1.below (fun k h => h.elim) (Nat.le_trans HI.out.bel.size h1.size)
            have h3 : Below w.heap.size wx w5 := HC5.out.2.1.below (fun k h => by have := HVF.out k h; omega) (Nat.le_trans (Nat.le_trans HI.out.bel.size h1.size) h2.size)
            have h4 : Below w.heap.size w5 (w5.setCell ⟨Q3, 0, none⟩ (.slice (some ⟨g5, 0, none⟩) (j + 1) cap5)) := hset.below (fun k h => by have h : k = Q3 := h; omega) (Nat.le_trans (Nat.le_trans (Nat.le_trans HI.out.bel.size h1.size) h2.size) h3.size)
            exact (((HI.out.bel.trans h1).trans h2).trans h3).trans h4)
        go_roundg (6 - (j + 1))
        case measure => have := HK.out; omega
        case rel => exact ⟨j + 1, _, by omega, by omega, rfl, by go_num, HN2⟩
      · obtain rfl : j = 6 := by omega
        have x2 := HI.out.x2
        have x3 := HI.out.x3
        have w3 := cell_of_block x3 0
        have w2 := cell_of_block x2 0
        have f2 := frozen_of_block x2 0
        simp at w2 w3
        obtain ⟨xs, hown, hcl⟩ := HI.out.row
        obtain ⟨_, AV, cV, rfl⟩ := ownsRow_slice hown
        have HXS := Lib.hid (And.intro hown hcl)
        clear x2 x3 hown hcl
        go_wp2_with fail
        obtain ⟨wf, hwf⟩ : ∃ z, z = wr.setCell ⟨Q2, 0, none⟩ (.slice AV 6 cV) := ⟨_, rfl⟩
        have hset : Chg (fun k => k = Q2) wr wf := by rw [hwf]; exact Chg.set_cell (w := wr) ⟨Q2, 0, none⟩ _
        have v0 := cell_of_block (heap_set HI.out.x2 0 (.slice AV 6 cV)) 0
        rw [← hwf] at v0 ⊢
        simp at v0
        refine bodyPost_ret (by simp [results, Tryd.results11, go_sem, v0]; try rfl) rfl ?_
        have hQ := HQ.out
        have hbf : Below w.heap.size w wf := HI.out.bel.trans (hset.below (fun k h => by have h : k = Q2 := h; omega) HI.out.bel.size)
        have et : fewv (fs.take 6) = fewv fs := by unfold fewv; rw [List.take_take, Nat.min_self]
        have hln := fewv_len (fs := fs) (j := 6) (by have := HN.out; omega) (by omega)
        have hrow := ownsRow_kept HXS.out.1 hset (fun k hk e => by have := HI.out.far k hk; have e : k = Q2 := e; omega)
        rw [et] at hln
        refine ⟨_, rfl, FnsIs.of_row (by rw [hln]; exact hrow) (FnCells.keep (by have h := HXS.out.2; rw [et] at h; exact h) hbf), hbf⟩
    · obtain rfl : j = n := by omega
      have x2 := HI.out.x2
      have x3 := HI.out.x3
      have w3 := cell_of_block x3 0
      have w2 := cell_of_block x2 0
      have f2 := frozen_of_block x2 0
      simp at w2 w3
      obtain ⟨xs, hown, hcl⟩ := HI.out.row
      obtain ⟨_, AV, cV, rfl⟩ := ownsRow_slice hown
      have HXS := Lib.hid (And.intro hown hcl)
      clear x2 x3 hown hcl
      go_wp2_with fail
      obtain ⟨wf, hwf⟩ : ∃ z, z = wr.setCell ⟨Q2, 0, none⟩ (.slice AV j cV) := ⟨_, rfl⟩
      have hset : Chg (fun k => k = Q2) wr wf := by rw [hwf]; exact Chg.set_cell (w := wr) ⟨Q2, 0, none⟩ _
      have v0 := cell_of_block (heap_set HI.out.x2 0 (.slice AV j cV)) 0
      rw [← hwf] at v0 ⊢
      simp at v0
      refine bodyPost_ret (by simp [results, Tryd.results11, go_sem, v0]; try rfl) rfl ?_
      have hQ := HQ.out
      have hbf : Below w.heap.size w wf := HI.out.bel.trans (hset.below (fun k h => by have h : k = Q2 := h; omega) HI.out.bel.size)
      have et : fewv (fs.take j) = fewv fs := by rw [List.take_of_length_le (by rw [← HN.out]; exact Nat.le_refl _)]
      have hln := fewv_len (fs := fs) (j := j) (by have := HN.out; omega) (by omega)
      have hrow := ownsRow_kept HXS.out.1 hset (fun k hk e => by have := HI.out.far k hk; have e : k = Q2 := e; omega)
      rw [et] at hln
      refine ⟨_, rfl, FnsIs.of_row (by rw [hln]; exact hrow) (FnCells.keep (by have h := HXS.out.2; rw [et] at h; exact h) hbf), hbf⟩
end Go.Proofs.YtdpimkbdieafgaaDoor
namespace Go.Proofs.YtdpimkbdieafgaaDoor
set_option linter.unusedVariables false
set_option linter.unusedSimpArgs false
open Go.RowKit

/-! ### what a run comes to -/
theorem over_unique {fs : List FnR} {c : Conf} {a b : Nat} {g g' : GS} {r r' e e' : Int} (h : iter fs a c = .over g r e) (k : iter fs b c = .over g' r' e') : g = g' ∧ r = r' ∧ e = e' := by
  have h1 : iter fs (a + b) c = .over g r e := by rw [iter_add, h, iter_over]
  have h2 : iter fs (a + b) c = .over g' r' e' := by rw [Nat.add_comm, iter_add, k, iter_over]
  rw [h1] at h2
  injection h2 with h2 h3 h4
  exact ⟨h2, h3, h4⟩
theorem Rand.over {fs : List FnR} {f : Fr} {g g' : GS} {n err : Int} (h : Rand fs f 1 g n err g') : ∃ k, iter fs k (.run [f] g) = .over g' n err := by
  obtain ⟨hn, k, hk⟩ := h
  refine ⟨k, ?_⟩
  rw [hk [] rfl]
  unfold outC
  split
  · rename_i h; subst h; rfl
  · rename_i h; rw [hn h]
def outOf (g : GS) (r e : Int) : OutR := ⟨g.pr, g.ke, g.cl, g.now, r, e⟩
/-- the outcome of code that is right -/
theorem RunO.ok {fs : List FnR} {i0 i1 : List Int} {fuel quota : Int} {o : OutR} (h : RunO fs i0 i1 fuel quota o) (hc : CodeOk fs) : ∃ k g, iter fs k (.run [newFr fs 0 []] (startG i0 i1 fuel quota)) = .over g o.res o.err ∧ o = outOf g o.res o.err := by
  rcases h with ⟨hn, _⟩ | ⟨_, g', hr, h1, h2, h3, h4⟩
  · exact absurd hc hn
  · obtain ⟨k, hk⟩ := hr.over
    refine ⟨k, g', hk, ?_⟩
    obtain ⟨pr, ke, cl, clk, res, err⟩ := o
    simp only at h1 h2 h3 h4
    subst h1 h2 h3 h4
    rfl
theorem RunO.no {fs : List FnR} {i0 i1 : List Int} {fuel quota : Int} {o : OutR} (h : RunO fs i0 i1 fuel quota o) (hc : ¬ CodeOk fs) : o = ⟨[], [], [], 0, 0, 6⟩ := by
  rcases h with ⟨_, h⟩ | ⟨h, _⟩
  · exact h
  · exact absurd h hc
theorem RunO.is {fs : List FnR} {i0 i1 : List Int} {fuel quota : Int} {o : OutR} (h : RunO fs i0 i1 fuel quota o) (hc : CodeOk fs) {k : Nat} {g : GS} {r e : Int} (hk : iter fs k (.run [newFr fs 0 []] (startG i0 i1 fuel quota)) = .over g r e) : o = outOf g r e := by
  obtain ⟨k', g', h1, h2⟩ := h.ok hc
  obtain ⟨rfl, h3, h4⟩ := over_unique hk h1
  rw [h2, h3, h4]

/-! ### code that is right -/
def chkV (fs : List FnR) (f : FnR) (V : List (Int × Int)) : Bool :=
  (lookv V 0 == some 0) && V.all (fun x => decide (0 ≤ x.1) && decide (x.1 < (f.l.length : Int)) && okAt fs f (insAt f x.1) x.2 && (succs (insAt f x.1) x.1).all (fun q => lookv V q == some (behind fs (insAt f x.1) x.2))) &&
    (List.range V.length).all (fun i => (V.getD i (0, 0) == (0, 0)) || (List.range i).any (fun j => (succs (insAt f (V.getD j (0, 0)).1) (V.getD j (0, 0)).1).contains (V.getD i (0, 0)).1 && ((V.getD i (0, 0)).2 == behind fs (insAt f (V.getD j (0, 0)).1) (V.getD j (0, 0)).2)))
theorem sty_of_chk {fs : List FnR} {f : FnR} (V : List (Int × Int)) (h : chkV fs f V = true) : STy fs f := by
  unfold chkV at h
  simp only [Bool.and_eq_true, beq_iff_eq, List.all_eq_true, decide_eq_true_eq, Bool.or_eq_true, List.any_eq_true, List.mem_range, List.contains_iff_mem] at h
  obtain ⟨⟨h0, hall⟩, hgen⟩ := h
  refine ⟨V, ⟨h0, fun p dp hp => ?_⟩, fun i x hi => ?_⟩
  · obtain ⟨⟨⟨a, b⟩, c⟩, d⟩ := hall _ (lookv_some hp)
    exact ⟨⟨a, b⟩, c, d⟩
  · have hil : i < V.length := (List.getElem?_eq_some_iff.1 hi).1
    have e : V.getD i (0, 0) = x := by rw [List.getD_eq_getElem?_getD, hi]; rfl
    rcases hgen i hil with h | ⟨j, hj, h1, h2⟩
    · exact .inl (by rw [← e]; exact h)
    · have hjl : j < V.length := by omega
      have ej : V[j]? = some (V.getD j (0, 0)) := by rw [List.getD_eq_getElem?_getD, List.getElem?_eq_getElem hjl]; rfl
      rw [e] at h1 h2
      exact .inr ⟨j, V.getD j (0, 0), hj, ej, (hall _ (List.mem_of_getElem? ej)).1.2, h1, h2⟩

def shL : List InsR := [⟨1, 0, 1⟩, ⟨1, 0, 2⟩, ⟨6, 0, 0⟩, ⟨19, 0, 0⟩, ⟨1, 0, 0⟩, ⟨18, 0, 0⟩]
def shF : List FnR := [⟨⟨#[]⟩, 0, 0, 0, shL⟩]
theorem shF_ok : CodeOk shF := by
  refine ⟨by decide, rfl, fun f hf => ?_⟩
  have e : f = ⟨⟨#[]⟩, 0, 0, 0, shL⟩ := by simpa [shF] using hf
  subst e
  exact ⟨by unfold hdr; decide, sty_of_chk [(0, 0), (1, 1), (2, 2), (3, 1), (4, 0), (5, 1)] (by kernel_rfl)⟩
theorem noF_no : ¬ CodeOk [] := fun h => by have := h.1.1; simp at this
theorem sh_run1 : ∃ g, iter shF 6 (.run [newFr shF 0 []] (startG [] [] 11 0)) = .over g 0 0 ∧ outOf g 0 0 = ⟨[3], [], [], 11, 0, 0⟩ := ⟨_, by rfl, by kernel_rfl⟩
theorem sh_run2 : ∃ g, iter shF 6 (.run [newFr shF 0 []] (startG [] [] 10 0)) = .over g 0 8 ∧ outOf g 0 8 = ⟨[3], [], [], 11, 0, 8⟩ := ⟨_, by rfl, by kernel_rfl⟩
end Go.Proofs.YtdpimkbdieafgaaDoor
namespace Go.Proofs.YtdpimkbdieafgaaDoor
set_option linter.unusedVariables false
set_option linter.unusedSimpArgs false
open Go.RowKit

theorem src_block {w : World} {G : Nat} {l : List InsR} {n : Nat} (hn : n = l.length) (h : w.heap[G]? = some (.cells (insCells l).toArray 44 (0, 0))) (hm : n ≤ maxLen) : Src w (.slice (some ⟨G, 0, none⟩) n n) n (insCells l) :=
  .inr ⟨G, 0, n, rfl, lt_of_heap h, Nat.le_refl _, hm, fun j u hu => by rw [Nat.zero_add, cell_of_block h]; simpa using hu⟩
theorem numsrc_nil (w : World) : NumSrc w (.slice none 0 0) [] := ⟨none, 0, rfl, Nat.le_refl _, by simp [maxLen], fun h => by cases h⟩
theorem numsrc_one {w : World} {G : Nat} {x : Int} {t : TypeId} (h : w.heap[G]? = some (.cells #[.int .i64 x] t (0, 0))) : NumSrc w (.slice (some ⟨G, 0, none⟩) 1 1) [x] :=
  ⟨_, 1, rfl, Nat.le_refl _, by simp [maxLen], fun _ => ⟨G, 0, rfl, fun j y hy => by
    have hj : j = 0 := by have := (List.getElem?_eq_some_iff.1 hy).1; simp at this; exact this
    subst hj
    injection hy with hy
    subst hy
    rw [cell_of_block h]
    rfl⟩⟩
theorem outIs_keep {w w' : World} {v : Value} {o : OutR} (h : OutIs w v o) (hb : Below w.heap.size w w') : OutIs w' v o := by
  obtain ⟨P, K, C, e, h1, h2, h3⟩ := h
  exact ⟨P, K, C, e, h1.keep hb, h2.keep hb, h3.keep hb⟩
theorem outIs_shape {w : World} {v : Value} {o : OutR} (h : OutIs w v o) : ∃ AP cP AK cK AC cC, v = .agg #[.slice AP o.pr.length cP, .slice AK o.ke.length cK, .slice AC o.cl.length cC, .int .i64 o.clk, .int .i64 o.res, .int .i64 o.err] ∧ NumSrc w (.slice AP o.pr.length cP) o.pr ∧ NumSrc w (.slice AK o.ke.length cK) o.ke ∧ NumSrc w (.slice AC o.cl.length cC) o.cl := by
  obtain ⟨P, K, C, e, h1, h2, h3⟩ := h
  obtain ⟨AP, cP, rfl⟩ := h1.shape
  obtain ⟨AK, cK, rfl⟩ := h2.shape
  obtain ⟨AC, cC, rfl⟩ := h3.shape
  exact ⟨_, _, _, _, _, _, e, h1, h2, h3⟩

set_option maxHeartbeats 8000000 in
set_option maxRecDepth 100000 in
theorem shown_any {w : World} (h : SortsIs w) : Calls Tryd.prog 10 #[] w fun e w' => e = .returned (.bool true) ∧ Below w.heap.size w w' := by
  have HS := Lib.hid h
  clear h
  obtain ⟨wa, hwa⟩ : ∃ z, z = w.alloc (.cells #[.int .i64 1, .int .i64 0, .int .i64 1, .int .i64 1, .int .i64 0, .int .i64 2, .int .i64 6, .int .i64 0, .int .i64 0, .int .i64 19, .int .i64 0, .int .i64 0, .int .i64 1, .int .i64 0, .int .i64 0, .int .i64 18, .int .i64 0, .int .i64 0] 44) := ⟨_, rfl⟩
  obtain ⟨G, hG⟩ : ∃ z, z = w.heap.size := ⟨_, rfl⟩
  obtain ⟨wb, hwb⟩ : ∃ z, z = wa.alloc (.cells #[.string ⟨#[]⟩, .int .i64 0, .int .i64 0, .int .i64 0, .slice (some ⟨G, 0, none⟩) 6 6] 46) := ⟨_, rfl⟩
  obtain ⟨P, hP⟩ : ∃ z, z = wa.heap.size := ⟨_, rfl⟩
  obtain ⟨w0, hw0⟩ : ∃ z, z = wb.alloc (.cells #[.slice (some ⟨P, 0, none⟩) 1 1] 24) := ⟨_, rfl⟩
  obtain ⟨Q, hQ⟩ : ∃ z, z = wb.heap.size := ⟨_, rfl⟩
  have eP : P = G + 1 := by rw [hP, hwa, hG]; show (w.heap.push _).size = _; exact Array.size_push _
  have eQ : Q = G + 1 + 1 := by rw [hQ, hwb]; show (wa.heap.push _).size = _; rw [Array.size_push, ← hP, eP]
  have ca : Chg (fun _ => False) w wa := by rw [hwa]; exact (Chg.refl _ _).alloc _
  have cb : Chg (fun _ => False) wa wb := by rw [hwb]; exact (Chg.refl _ _).alloc _
  have c0 : Chg (fun _ => False) wb w0 := by rw [hw0]; exact (Chg.refl _ _).alloc _
  have xG : w0.heap[G]? = some (.cells #[.int .i64 1, .int .i64 0, .int .i64 1, .int .i64 1, .int .i64 0, .int .i64 2, .int .i64 6, .int .i64 0, .int .i64 0, .int .i64 19, .int .i64 0, .int .i64 0, .int .i64 1, .int .i64 0, .int .i64 0, .int .i64 18, .int .i64 0, .int .i64 0] 44 (0, 0)) := (cb.then c0).heap (by rw [hwa]; exact heap_new' hG.symm) (fun x => x)
  have xP : w0.heap[P]? = some (.cells #[.string ⟨#[]⟩, .int .i64 0, .int .i64 0, .int .i64 0, .slice (some ⟨G, 0, none⟩) 6 6] 46 (0, 0)) := c0.heap (by rw [hwb]; exact heap_new' hP.symm) (fun x => x)
  have xQ : w0.heap[Q]? = some (.cells #[.slice (some ⟨P, 0, none⟩) 1 1] 24 (0, 0)) := by rw [hw0]; exact heap_new' hQ.symm
  have b0 : Below w.heap.size w w0 := ((ca.then cb).then c0).below (fun k h => h.elim) (Nat.le_refl _)
  have hsrc : Src w0 (.slice (some ⟨G, 0, none⟩) 6 6) 6 (insCells shL) := src_block (l := shL) rfl (by rw [xG]; rfl) (by simp [maxLen])
  have hfs : FnsIs w0 (.slice (some ⟨P, 0, none⟩) 1 1) shF := by
    refine .inr ⟨P, 0, 1, rfl, lt_of_heap xP, Nat.le_refl _, by simp [maxLen], fun j f hf => ?_⟩
    have hj : j = 0 := by have := (List.getElem?_eq_some_iff.1 hf).1; simp [shF] at this; exact this
    subst hj
    injection hf with hf
    subst hf
    have z0 := cell_of_block xP 0
    have z1 := cell_of_block xP 1
    have z2 := cell_of_block xP 2
    have z3 := cell_of_block xP 3
    have z4 := cell_of_block xP 4
    exact ⟨_, _, ⟨z0, z1, z2, z3, z4⟩, hsrc⟩
  have y0 := cell_of_block xQ 0
  simp at y0
  have hl : ∀ f ∈ shF, f.l.length ≤ 1048576 := fun f hf => by
    have e : f = ⟨⟨#[]⟩, 0, 0, 0, shL⟩ := by simpa [shF] using hf
    subst e
    decide
  have C1 := Lib.hid (run_any (w := w0) (A := some ⟨P, 0, none⟩) (c := 1) (fs := shF) (fuel := 11) (quota := 0) (HS.out.keep b0) hfs (by decide) hl (numsrc_nil w0) (numsrc_nil w0) (by decide))
  have HWE := Lib.hid (And.intro hwa (And.intro hwb (And.intro hw0 (And.intro eQ (And.intro eP hG)))))
  have HB0 := Lib.hid b0
  have HFS := Lib.hid hfs
  have HL := Lib.hid hl
  have HXQ := Lib.hid xQ
  clear hwa hwb hw0 hG hP hQ eP eQ ca cb c0 xG xP xQ b0 hsrc hfs hl
  rw [show shF.length = 1 from rfl] at C1
  go_enter Tryd.func10, Tryd.ntmps10
  go_upto_region 3 with fail
  rw [← HWE.out.2.2.2.2.2, ← HWE.out.1, ← HWE.out.2.2.2.1, ← HWE.out.2.2.2.2.1, ← HWE.out.2.1, ← HWE.out.2.2.1]
  go_wp2_with fail
  refine C1.out.mono ?_; rintro e w1 ⟨v1, o1, rfl, ho1, hr1, hb1, _⟩
  obtain ⟨g1, hk1, hg1⟩ := sh_run1
  obtain rfl : o1 = ⟨[3], [], [], 11, 0, 0⟩ := by rw [hr1.is shF_ok hk1]; exact hg1
  obtain ⟨AP1, cP1, AK1, cK1, AC1, cC1, rfl, hp1, _, _⟩ := outIs_shape ho1
  simp only [List.length_singleton, List.length_nil] at hp1 ⊢
  obtain ⟨wA, hwA⟩ : ∃ z, z = w1.alloc (.cells #[.slice AP1 1 cP1, .slice AK1 0 cK1, .slice AC1 0 cC1, .int .i64 11, .int .i64 0, .int .i64 0] 32) := ⟨_, rfl⟩
  obtain ⟨BA, hBA⟩ : ∃ z, z = w1.heap.size := ⟨_, rfl⟩
  have bA : Below w.heap.size w wA := by rw [hwA]; exact (bel_trans HB0.out hb1).alloc (bel_trans HB0.out hb1).size _
  have hb1A : Below w1.heap.size w1 wA := by rw [hwA]; exact (Below.refl _ _).alloc (Nat.le_refl _) _
  have xA : wA.heap[BA]? = some (.cells #[.slice AP1 1 cP1, .slice AK1 0 cK1, .slice AC1 0 cC1, .int .i64 11, .int .i64 0, .int .i64 0] 32 (0, 0)) := by rw [hwA]; exact heap_new' hBA.symm
  have b0A : Below w0.heap.size w0 wA := by rw [hwA]; exact hb1.alloc hb1.size _
  have xQA := (Below.chg b0A).heap HXQ.out (fun x => x)
  have C2 := Lib.hid (run_any (w := wA) (A := some ⟨P, 0, none⟩) (c := 1) (fs := shF) (fuel := 10) (quota := 0) (HS.out.keep bA) (HFS.out.keep b0A) (by decide) HL.out (numsrc_nil wA) (numsrc_nil wA) (by decide))
  rw [show shF.length = 1 from rfl] at C2
  have y0 := cell_of_block xQA 0
  simp at y0
  have HA := Lib.hid (And.intro hwA hBA)
  have HXA := Lib.hid (And.intro xA (And.intro bA (hp1.keep hb1A)))
  clear C1 hk1 hg1 ho1 hr1 hp1 hwA hBA bA hb1A xA b0A xQA hb1
  go_upto_region 4 with fail
  rw [← HA.out.1, ← HA.out.2]
  go_wp2_with fail
  refine C2.out.mono ?_; rintro e w2 ⟨v2, o2, rfl, ho2, hr2, hb2, _⟩
  obtain ⟨g2, hk2, hg2⟩ := sh_run2
  obtain rfl : o2 = ⟨[3], [], [], 11, 0, 8⟩ := by rw [hr2.is shF_ok hk2]; exact hg2
  obtain ⟨AP2, cP2, AK2, cK2, AC2, cC2, rfl, hp2, _, _⟩ := outIs_shape ho2
  simp only [List.length_singleton, List.length_nil] at hp2 ⊢
  obtain ⟨wB, hwB⟩ : ∃ z, z = w2.alloc (.cells #[.slice AP2 1 cP2, .slice AK2 0 cK2, .slice AC2 0 cC2, .int .i64 11, .int .i64 0, .int .i64 8] 32) := ⟨_, rfl⟩
  obtain ⟨BB, hBB⟩ : ∃ z, z = w2.heap.size := ⟨_, rfl⟩
  have bB : Below w.heap.size w wB := by rw [hwB]; exact (bel_trans HXA.out.2.1 hb2).alloc (bel_trans HXA.out.2.1 hb2).size _
  have hb2B : Below w2.heap.size w2 wB := by rw [hwB]; exact (Below.refl _ _).alloc (Nat.le_refl _) _
  have hbAB : Below wA.heap.size wA wB := by rw [hwB]; exact hb2.alloc hb2.size _
  have xB : wB.heap[BB]? = some (.cells #[.slice AP2 1 cP2, .slice AK2 0 cK2, .slice AC2 0 cC2, .int .i64 11, .int .i64 0, .int .i64 8] 32 (0, 0)) := by rw [hwB]; exact heap_new' hBB.symm
  have xAB := (Below.chg hbAB).heap HXA.out.1 (fun x => x)
  have C3 := Lib.hid (run_any (w := wB) (A := none) (c := 0) (fs := []) (fuel := 10) (quota := 0) (HS.out.keep bB) (.inl ⟨rfl, none, 0, rfl⟩) (by decide) (fun f hf => by cases hf) (numsrc_nil wB) (numsrc_nil wB) (by decide))
  rw [show ([] : List FnR).length = 0 from rfl] at C3
  have HA := Lib.hid (And.intro hwB hBB)
  have HXB := Lib.hid (And.intro xB (And.intro bB (And.intro (hp2.keep hb2B) (And.intro xAB (HXA.out.2.2.keep hbAB)))))
  clear C2 hk2 hg2 ho2 hr2 hp2 hwB hBB bB hb2B xB hbAB xAB hb2 y0
  go_upto_region 5 with fail
  rw [← HA.out.1, ← HA.out.2]
  go_wp2_with fail
  refine C3.out.mono ?_; rintro e w3 ⟨v3, o3, rfl, ho3, hr3, hb3, _⟩
  obtain rfl : o3 = ⟨[], [], [], 0, 0, 6⟩ := hr3.no noF_no
  obtain ⟨AP3, cP3, AK3, cK3, AC3, cC3, rfl, _, _, _⟩ := outIs_shape ho3
  simp only [List.length_singleton, List.length_nil]
  obtain ⟨wC, hwC⟩ : ∃ z, z = w3.alloc (.cells #[.slice AP3 0 cP3, .slice AK3 0 cK3, .slice AC3 0 cC3, .int .i64 0, .int .i64 0, .int .i64 6] 32) := ⟨_, rfl⟩
  obtain ⟨BC, hBC⟩ : ∃ z, z = w3.heap.size := ⟨_, rfl⟩
  have bC : Below w.heap.size w wC := by rw [hwC]; exact (bel_trans HXB.out.2.1 hb3).alloc (bel_trans HXB.out.2.1 hb3).size _
  have hbBC : Below wB.heap.size wB wC := by rw [hwC]; exact hb3.alloc hb3.size _
  have xC : wC.heap[BC]? = some (.cells #[.slice AP3 0 cP3, .slice AK3 0 cK3, .slice AC3 0 cC3, .int .i64 0, .int .i64 0, .int .i64 6] 32 (0, 0)) := by rw [hwC]; exact heap_new' hBC.symm
  have xA := (Below.chg hbBC).heap HXB.out.2.2.2.1 (fun x => x)
  have xB := (Below.chg hbBC).heap HXB.out.1 (fun x => x)
  have HP := Lib.hid (And.intro (HXB.out.2.2.2.2.keep hbBC) (HXB.out.2.2.1.keep hbBC))
  have HC := Lib.hid (And.intro hwC hBC)
  -- the first comparison
  obtain ⟨wD, hwD⟩ : ∃ z, z = wC.alloc (.cells #[.int .i64 3] 2) := ⟨_, rfl⟩
  obtain ⟨BD, hBD⟩ : ∃ z, z = wC.heap.size := ⟨_, rfl⟩
  have cD : Chg (fun _ => False) wC wD := by rw [hwD]; exact (Chg.refl _ _).alloc _
  have bCD : Below wC.heap.size wC wD := cD.below (fun k h => h.elim) (Nat.le_refl _)
  have xD : wD.heap[BD]? = some (.cells #[.int .i64 3] 2 (0, 0)) := by rw [hwD]; exact heap_new' hBD.symm
  have R1 := rows_any (HP.out.1.keep bCD) (numsrc_one xD)
  rw [decide_eq_true rfl] at R1
  have RR1 := Lib.hid R1
  have HD := Lib.hid (And.intro hwD (And.intro hBD (And.intro bCD bC)))
  have yA := cD.heap xA (fun x => x)
  have yB := cD.heap xB (fun x => x)
  have yC := cD.heap xC (fun x => x)
  have p0 := cell_of_block xA 0
  have HY := Lib.hid (And.intro yA (And.intro yB yC))
  have q3 := cell_of_block yA 3
  have q5 := cell_of_block yA 5
  have r0 := cell_of_block yB 0
  simp at p0 q3 q5 r0
  clear C3 ho3 hr3 hb3 hwC hBC bC hbBC xC xA xB hwD hBD cD bCD xD R1 yA yB yC
  go_upto_region 6 with fail
  rw [← HC.out.1, ← HC.out.2]
  go_wp2_with fail
  rw [← HD.out.1, ← HD.out.2.1]
  refine RR1.out.mono ?_; rintro e w4 ⟨rfl, k1, rfl⟩
  obtain ⟨wE, hwE⟩ : ∃ z, z = (wD.drewN k1).alloc (.cells #[.int .i64 3] 2) := ⟨_, rfl⟩
  obtain ⟨BE, hBE⟩ : ∃ z, z = wD.heap.size := ⟨_, rfl⟩
  have cE : Chg (fun _ => False) wD wE := by rw [hwE]; exact ((Chg.refl _ _).drewN k1).alloc _
  have bDE : Below wD.heap.size wD wE := cE.below (fun k h => h.elim) (Nat.le_refl _)
  have xE : wE.heap[BE]? = some (.cells #[.int .i64 3] 2 (0, 0)) := by rw [hwE]; exact heap_new' (w := wD.drewN k1) hBE.symm
  have bCE := bel_trans HD.out.2.2.1 bDE
  have R2 := rows_any (HP.out.2.keep bCE) (numsrc_one xE)
  rw [decide_eq_true rfl] at R2
  have RR2 := Lib.hid R2
  have yB := cE.heap HY.out.2.1 (fun x => x)
  have yC := cE.heap HY.out.2.2 (fun x => x)
  have s3 := cell_of_block yB 3
  have s5 := cell_of_block yB 5
  have u5 := cell_of_block yC 5
  simp at s3 s5 u5
  have HE := Lib.hid (And.intro hwE (And.intro hBE (bel_trans HD.out.2.2.2 bCE)))
  clear hwE hBE cE bDE xE bCE R2 yB yC p0 RR1
  go_wp2_with fail
  rw [← HE.out.1, ← HE.out.2.1]
  refine RR2.out.mono ?_; rintro e w5 ⟨rfl, k2, rfl⟩
  go_wp2_with fail
  go_ret
  exact ⟨rfl, belowN HE.out.2.2 _⟩
end Go.Proofs.YtdpimkbdieafgaaDoor
