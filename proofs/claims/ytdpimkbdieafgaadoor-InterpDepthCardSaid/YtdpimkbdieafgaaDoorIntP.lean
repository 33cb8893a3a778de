/- law14: rows, begins, same. -/
import Derived.Test.YtdpimkbdieafgaaDoorIntN
import Derived.BigQuiet
namespace Go.Proofs.YtdpimkbdieafgaaDoor
set_option linter.unusedVariables false
set_option linter.unusedSimpArgs false
open Go.RowKit

theorem drewN_add (w : World) (a b : Nat) : (w.drewN a).drewN b = w.drewN (a + b) := by unfold World.drewN; simp only [Nat.add_assoc]
theorem NumSrc.get {w : World} {A : Option Addr} {n c : Nat} {l : List Int} (h : NumSrc w (.slice A n c) l) : n = l.length ∧ n ≤ c ∧ c ≤ maxLen ∧ ∀ (j : Nat) (hj : j < l.length), ∃ b off, A = some ⟨b, off, none⟩ ∧ w.cell? ⟨b, off + j, none⟩ = some (.int .i64 l[j]) := by
  obtain ⟨A', c', e, h1, h2, h3⟩ := h
  injection e with e1 e2 e3
  subst e1 e2 e3
  refine ⟨rfl, h1, h2, fun j hj => ?_⟩
  obtain ⟨b, off, e, h4⟩ := h3 (by omega)
  exact ⟨b, off, e, h4 j _ (List.getElem?_eq_getElem hj)⟩
theorem NumSrc.shape {w : World} {V : Value} {l : List Int} (h : NumSrc w V l) : ∃ A c, V = .slice A l.length c := by
  obtain ⟨A, c, e, _⟩ := h
  exact ⟨A, c, e⟩
theorem NumSrc.take {w : World} {A : Option Addr} {c : Nat} {l : List Int} (h : NumSrc w (.slice A l.length c) l) (j : Nat) (hj : j ≤ l.length) : NumSrc w (.slice A j c) (l.take j) := by
  obtain ⟨A', c', e, h1, h2, h3⟩ := h
  injection e with e1 e2 e3
  subst e1 e3
  have e : (l.take j).length = j := by rw [List.length_take]; omega
  refine ⟨A, c, by rw [e], by rw [e]; omega, h2, fun h0 => ?_⟩
  rw [e] at h0
  obtain ⟨b, off, rfl, h4⟩ := h3 (by omega)
  refine ⟨b, off, rfl, fun i x hx => h4 i x ?_⟩
  rw [List.getElem?_take] at hx
  split at hx
  · exact hx
  · cases hx

set_option maxHeartbeats 4000000 in
set_option maxRecDepth 100000 in
theorem rows_any {w : World} {v1 v2 : Value} {xs ys : List Int} (h1 : NumSrc w v1 xs) (h2 : NumSrc w v2 ys) :
    Calls Tryd.prog 18 #[v1, v2] w fun e w' => e = .returned (.bool (decide (xs = ys))) ∧ ∃ k, w' = w.drewN k := by
  obtain ⟨A, c, rfl⟩ := h1.shape
  obtain ⟨B, d, rfl⟩ := h2.shape
  obtain ⟨_, g1, g2, HA⟩ := h1.get
  obtain ⟨_, g3, g4, HB⟩ := h2.get
  have hm1 : xs.length ≤ 9223372036854775807 := by have := g2; unfold maxLen at this; omega
  have HA := Lib.hid HA
  have HB := Lib.hid HB
  clear h1 h2
  obtain ⟨n, hn⟩ : ∃ n, n = xs.length := ⟨_, rfl⟩
  obtain ⟨m, hm⟩ : ∃ m, m = ys.length := ⟨_, rfl⟩
  rw [← hn] at hm1 g1 ⊢
  rw [← hm] at g3 ⊢
  have HN := Lib.hid hn
  have HM := Lib.hid hm
  clear hn hm g2 g4
  by_cases hl : n = m
  · subst hl
    go_enter Tryd.func18, Tryd.ntmps18
    go_wp2_with fail
    go_loopg [5] n (fun k i wr => ∃ j q : Nat, j ≤ n ∧ k = n - j ∧ i = .int .i64 j ∧ Hid (xs.take j = ys.take j) ∧ wr = w.drewN q)
    case atStart => exact ⟨0, 0, by omega, rfl, rfl, Lib.hid rfl, rfl⟩
    case round =>
      obtain ⟨j, q, hj, hk, rfl, HT, rfl⟩ := hrel
      have HK := Lib.hid hk
      clear hk
      by_cases hlt : j < n
      · have hj1 : j < xs.length := by rw [← HN.out]; exact hlt
        have hj2 : j < ys.length := by rw [← HM.out]; exact hlt
        obtain ⟨b1, o1, rfl, c1⟩ := HA.out j hj1
        obtain ⟨b2, o2, rfl, c2⟩ := HB.out j hj2
        obtain ⟨x, hx⟩ : ∃ x, x = xs[j] := ⟨_, rfl⟩
        obtain ⟨y, hy⟩ : ∃ y, y = ys[j] := ⟨_, rfl⟩
        rw [← hx] at c1
        rw [← hy] at c2
        have t1 := List.take_succ_eq_append_getElem hj1
        have t2 := List.take_succ_eq_append_getElem hj2
        rw [← hx] at t1
        rw [← hy] at t2
        have HXY := Lib.hid (And.intro hx hy)
        have HT12 := Lib.hid (And.intro t1 t2)
        clear hx hy t1 t2
        have hjn : (j : Int) < (n : Int) := by omega
        by_cases hxy : x = y
        · subst hxy
          have HT2 : Hid (xs.take (j + 1) = ys.take (j + 1)) := Lib.hid (by rw [HT12.out.1, HT12.out.2, HT.out])
          go_wp2_with fail
          go_quiet (fail)
          go_wp2_with fail
          go_roundg (n - (j + 1))
          case measure => have := HK.out; omega
          case rel => exact ⟨j + 1, _, by omega, rfl, by go_num, HT2, rfl⟩
        · go_wp2_with fail
          go_quiet (fail)
          go_wp2_with fail
          go_ret
          refine ⟨?_, q + nq, drewN_add _ _ _⟩
          rw [decide_eq_false (fun h => hxy (by rw [HXY.out.1, HXY.out.2]; simp only [h]))]
          rfl
      · go_wp2_with fail
        go_ret
        refine ⟨?_, _, rfl⟩
        have e : j = n := by omega
        have h := HT.out
        rw [e] at h
        rw [List.take_of_length_le (by rw [HN.out]; exact Nat.le_refl _), List.take_of_length_le (by rw [HM.out]; exact Nat.le_refl _)] at h
        rw [decide_eq_true h]
        rfl
  · have HL := Lib.hid hl
    have hne : ¬ ((n : Int) = (m : Int)) := by omega
    clear hl
    go_enter Tryd.func18, Tryd.ntmps18
    go_wp2_with fail
    go_ret
    refine ⟨?_, 0, rfl⟩
    rw [decide_eq_false (fun h => HL.out (by rw [HN.out, HM.out, h]))]
    rfl

set_option maxHeartbeats 4000000 in
set_option maxRecDepth 100000 in
theorem begins_any {w : World} {v1 v2 : Value} {xs ys : List Int} (h1 : NumSrc w v1 xs) (h2 : NumSrc w v2 ys) (hp : xs <+: ys) :
    Calls Tryd.prog 17 #[v1, v2] w fun e w' => e = .returned (.bool true) ∧ ∃ k, w' = w.drewN k := by
  obtain ⟨A, c, rfl⟩ := h1.shape
  obtain ⟨B, d, rfl⟩ := h2.shape
  obtain ⟨_, g1, g2, _⟩ := h1.get
  obtain ⟨_, g3, g4, _⟩ := h2.get
  have hle := hp.length_le
  have hm1 : ys.length ≤ 9223372036854775807 := by have := g4; unfold maxLen at this; omega
  have e : ys.take xs.length = xs := (List.prefix_iff_eq_take.1 hp).symm
  have h3 := h2.take xs.length hle
  rw [e] at h3
  have CR := Lib.hid (rows_any h1 h3)
  rw [decide_eq_true rfl] at CR
  clear h1 h2 h3 e hp
  obtain ⟨n, hn⟩ : ∃ n, n = xs.length := ⟨_, rfl⟩
  obtain ⟨m, hm⟩ : ∃ m, m = ys.length := ⟨_, rfl⟩
  rw [← hn] at hle CR g1 ⊢
  rw [← hm] at hle hm1 g3 ⊢
  clear hn hm
  have hd : d ≤ 9223372036854775807 := by unfold maxLen at g4; omega
  clear g2 g4
  go_enter Tryd.func17, Tryd.ntmps17
  go_wp2_with fail
  refine CR.out.mono ?_; rintro e w1 ⟨rfl, k, rfl⟩
  go_wp2_with fail
  go_ret
  exact ⟨rfl, k, rfl⟩

def sameV (a b : OutR) : Bool := decide (a.pr = b.pr) && decide (a.ke = b.ke) && decide (a.cl = b.cl) && decide (a.clk = b.clk) && decide (a.res = b.res) && decide (a.err = b.err)
theorem sameV_refl (a : OutR) : sameV a a = true := by simp [sameV]
end Go.Proofs.YtdpimkbdieafgaaDoor
