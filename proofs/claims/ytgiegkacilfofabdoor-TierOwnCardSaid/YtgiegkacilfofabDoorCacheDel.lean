/- slices.DeleteFunc, as Drop uses it: one number of a row is taken out. -/
import Derived.Test.YtgiegkacilfofabDoorTcRow
import Derived.Lib.SliceRun
namespace Go.Proofs.YtgiegkacilfofabDoor
set_option linter.unusedVariables false
set_option linter.unusedSimpArgs false
open Go.RowKit

set_option maxRecDepth 100000 in
theorem drop1_any (x fn : Int) (k : Nat) (w : World) (hc : w.cell? ⟨k, 0, none⟩ = some (.int .i64 fn)) :
    Calls Tryd.prog 37 #[.int .i64 x, .pointer (some ⟨k, 0, none⟩)] w fun e w' => e = .returned (.bool (decide (x = fn))) ∧ w' = w := by
  by_cases h : x = fn
  · rw [decide_eq_true h]
    subst h
    go_enter Tryd.func37, Tryd.ntmps37
    go_wp2_with fail
    go_ret
    exact ⟨rfl, rfl⟩
  · rw [decide_eq_false h]
    go_enter Tryd.func37, Tryd.ntmps37
    go_wp2_with fail
    go_ret
    refine ⟨?_, rfl⟩
    show Ending.returned (Value.bool (x == fn)) = _
    rw [beq_eq_false_iff_ne.2 h]

def ints (l : List Int) : List Value := l.map (Value.int .i64)
theorem ints_get (l : List Int) (j : Nat) (h : j < l.length) : (ints l)[j]? = some (.int .i64 l[j]) := by simp [ints, h]

set_option maxHeartbeats 1000000 in
set_option maxRecDepth 100000 in
theorem indexFunc_any {w : World} {g cap n : Nat} (fn : Int) (k : Nat) (xs : List Int) (i : Nat) (hn : n = xs.length) (hm : n ≤ 1048576) (hcap : n ≤ cap) (hcm : cap ≤ maxLen) (hcs : ∀ j u, (ints xs)[j]? = some u → w.cell? ⟨g, j, none⟩ = some u)
    (hk : w.cell? ⟨k, 0, none⟩ = some (.int .i64 fn)) (hi : xs[i]? = some fn) (hb : ∀ j, j < i → xs[j]? ≠ some fn) :
    Calls Tryd.prog 48 #[.slice (some ⟨g, 0, none⟩) n cap, .func (.func 37) #[] #[.pointer (some ⟨k, 0, none⟩)]] w fun e w' => e = .returned (.int .i64 i) ∧ w' = w := by
  have hin : i < n := by rw [hn]; exact (List.getElem?_eq_some_iff.1 hi).1
  have HN := Lib.hid hn
  have HC := Lib.hid hcs
  have HK := Lib.hid hk
  have HI := Lib.hid hi
  have HB := Lib.hid hb
  unfold maxLen at hcm
  clear hn hcs hk hi hb
  go_enter Tryd.func48, Tryd.ntmps48
  go_wp2_with fail
  go_loopg [8] n (fun kk v wr => ∃ j : Nat, j ≤ i ∧ kk = n - j ∧ v = .int .i64 j ∧ wr = w)
  case atStart => exact ⟨0, by omega, rfl, rfl, rfl⟩
  case round =>
    obtain ⟨j, hj, hk, rfl, rfl⟩ := hrel
    have HKK := Lib.hid hk
    clear hk
    have hjn : j < xs.length := by rw [← HN.out]; omega
    obtain ⟨x, hxj⟩ : ∃ x, xs[j]? = some x := ⟨_, List.getElem?_eq_getElem hjn⟩
    have cj := HC.out j (.int .i64 x) (by unfold ints; rw [List.getElem?_map, hxj]; rfl)
    have HX := Lib.hid hxj
    have hjn' : j < n := by omega
    clear hjn hxj
    by_cases he : j = i
    · have hx : x = fn := by
        have h1 := HX.out
        rw [he, HI.out] at h1
        injection h1 with h1
        exact h1.symm
      subst he
      subst hx
      go_wp2_with fail
      refine (drop1_any _ _ k wr HK.out).mono ?_; rintro e w1 ⟨rfl, rfl⟩
      rw [decide_eq_true rfl]
      go_wp2_with fail
      go_ret
      exact ⟨rfl, rfl⟩
    · have hx : ¬ x = fn := fun h => HB.out j (by omega) (by rw [HX.out, h])
      go_wp2_with fail
      refine (drop1_any x fn k wr HK.out).mono ?_; rintro e w1 ⟨rfl, rfl⟩
      rw [decide_eq_false hx]
      go_wp2_with fail
      go_roundg (n - (j + 1))
      case measure => have := HKK.out; omega
      case rel => exact ⟨j + 1, by omega, rfl, by go_num, rfl⟩

theorem zeroI (w : World) : (zeroValue 3).run Tryd.prog w = .ok (.int .i64 0) w := by kernel_rfl
theorem setCells_one (w : World) (b o : Nat) (z : Value) : w.setCells b o [z] = w.setCell ⟨b, o, none⟩ z := rfl
/-- the row behind round j: fn stood at i, all behind it a place ahead -/
def Moved (xs : List Int) (i j : Nat) (cur cs : Array Value) : Prop :=
  cs.size = cur.size ∧ (∀ t x, t < i → xs[t]? = some x → cs[t]? = some (.int .i64 x)) ∧ (∀ t x, i ≤ t → t + 1 < j → xs[t + 1]? = some x → cs[t]? = some (.int .i64 x)) ∧ (∀ t, j ≤ t → cs[t]? = cur[t]?)
theorem Moved.start {xs : List Int} {i : Nat} {cur : Array Value} (hcs : ∀ (j : Nat) u, (ints xs)[j]? = some u → cur[j]? = some u) : Moved xs i (i + 1) cur cur :=
  ⟨rfl, fun t x _ hx => hcs t _ (by unfold ints; rw [List.getElem?_map, hx]; rfl), fun t x h1 h2 _ => by omega, fun _ _ => rfl⟩
theorem Moved.step {xs : List Int} {i j : Nat} {cur cs : Array Value} (h : Moved xs i j cur cs) (hj : i + 1 ≤ j) (x : Int) (hx : xs[j]? = some x) (hl : j < cur.size) : Moved xs i (j + 1) cur (cs.setIfInBounds (j - 1) (.int .i64 x)) := by
  obtain ⟨h1, h2, h3, h4⟩ := h
  refine ⟨by simpa using h1, fun t y ht hy => ?_, fun t y ht1 ht2 hy => ?_, fun t ht => ?_⟩
  · rw [Array.getElem?_setIfInBounds_ne (by omega)]; exact h2 t y ht hy
  · by_cases e : t + 1 = j
    · have : t = j - 1 := by omega
      subst this
      rw [e, hx] at hy
      injection hy with hy
      subst hy
      rw [Array.getElem?_setIfInBounds_self_of_lt (by omega)]
    · rw [Array.getElem?_setIfInBounds_ne (by omega)]; exact h3 t y ht1 (by omega) hy
  · rw [Array.getElem?_setIfInBounds_ne (by omega)]; exact h4 t (by omega)

theorem row_erased {W : World} {xs : List Int} {i p g cap : Nat} {cur cs : Array Value} (hin : i < p + 1) (hn : p + 1 = xs.length) (h : Moved xs i (p + 1) cur cs) (hcm : cap ≤ maxLen) (hsz : cur.size = cap) (hpc : p + 1 ≤ cap) {z : Value}
    (hb : W.heap[g]? = some (.cells (cs.setIfInBounds p z) 3 (0, 0))) : W.ownsRow 0 3 1 (.slice (some ⟨g, 0, none⟩) p cap) p (ints (xs.eraseIdx i)) := by
  obtain ⟨h1, h2, h3, h4⟩ := h
  have hl : (xs.eraseIdx i).length = p := by rw [List.length_eraseIdx_of_lt (by omega)]; omega
  refine ⟨by simp [ints, hl], .inr ⟨g, cap, _, rfl, Nat.zero_le _, hb, by omega, hcm, by simp [h1, hsz], ?_⟩⟩
  apply List.ext_getElem?
  intro t
  rw [Nat.mul_one]
  by_cases ht : t < p
  · rw [List.getElem?_take_of_lt ht, Array.getElem?_toList, Array.getElem?_setIfInBounds_ne (by omega)]
    unfold ints
    rw [List.getElem?_map, List.getElem?_eraseIdx]
    by_cases hti : t < i
    · rw [if_pos hti]
      have e : xs[t]? = some xs[t] := List.getElem?_eq_getElem (by omega)
      rw [e, h2 t _ hti e]
      rfl
    · rw [if_neg hti]
      have e : xs[t + 1]? = some xs[t + 1] := List.getElem?_eq_getElem (by omega)
      rw [e, h3 t _ (by omega) (by omega) e]
      rfl
  · rw [List.getElem?_eq_none (by simp; omega), List.getElem?_eq_none (by simp [ints, hl]; omega)]

set_option maxHeartbeats 1000000 in
set_option maxRecDepth 100000 in
theorem deleteFunc_any {w : World} {v : Value} {n : Nat} (fn : Int) (k : Nat) (xs : List Int) (i : Nat) (hn : n = xs.length) (hm : n ≤ 1048576) (hown : w.ownsRow 0 3 1 v n (ints xs)) (hk : w.cell? ⟨k, 0, none⟩ = some (.int .i64 fn)) (hkv : v.ownBlock ≠ some k)
    (hi : xs[i]? = some fn) (hb : ∀ j, j < i → xs[j]? ≠ some fn) (ha : ∀ j, i < j → xs[j]? ≠ some fn) :
    Calls Tryd.prog 36 #[v, .func (.func 37) #[] #[.pointer (some ⟨k, 0, none⟩)]] w fun e w' => ∃ v', e = .returned v' ∧ w'.ownsRow 0 3 1 v' (n - 1) (ints (xs.eraseIdx i)) ∧ v'.ownBlock = v.ownBlock ∧ Chg (fun b => v.ownBlock = some b) w w' := by
  have hin : i < n := by rw [hn]; exact (List.getElem?_eq_some_iff.1 hi).1
  have hcs := fun g hg => hown.cells (g := g) hg
  rcases hown with ⟨hl, ⟨_, h0⟩ | ⟨g, cap, cur, rfl, hb0, hh, h1, h2, h3, h4⟩⟩
  · omega
  have hcs : ∀ j u, (ints xs)[j]? = some u → w.cell? ⟨g, j, none⟩ = some u := fun j u hu => by
    have := hcs g rfl j u hu
    rwa [add0] at this
  have CI := Lib.hid (indexFunc_any fn k xs i hn hm h1 h2 hcs hk hi hb)
  have hgk : g ≠ k := fun e => hkv (by rw [e]; rfl)
  have hcur : ∀ j u, (ints xs)[j]? = some u → cur[j]? = some u := fun j u hu => by
    have := hcs j u hu
    rwa [cell_of_block hh] at this
  have HS : Hid (Moved xs i (i + 1) cur cur) := Lib.hid (Moved.start hcur)
  have HCU := Lib.hid hcur
  have HN := Lib.hid hn
  have HHH := Lib.hid hh
  have HK := Lib.hid hk
  have HI := Lib.hid hi
  have HA := Lib.hid ha
  have h2' := h2
  unfold maxLen at h2'
  have H3 := Lib.hid h3
  have H2 := Lib.hid h2
  clear hl hb0 hh h2 h3 h4 hcs hk hi hb ha hkv hcur hn
  go_enter Tryd.func36, Tryd.ntmps36
  go_wp2_with fail
  refine CI.out.mono ?_; rintro e w9 ⟨rfl, rfl⟩
  clear CI
  go_wp2_with fail
  go_loopg [5, 6] n (fun kk a b wr => ∃ j : Nat, i + 1 ≤ j ∧ j ≤ n ∧ kk = n + (i + 1) - j ∧ a = .int .i64 ((j : Int) - 1) ∧ b = .int .i64 j ∧ ∃ cs, wr.heap[g]? = some (.cells cs 3 (0, 0)) ∧ Hid (Moved xs i j cur cs) ∧ Hid (Chg (fun b => b = g) w9 wr))
  case atStart => exact ⟨i + 1, by omega, by omega, by omega, by go_num, by go_num, cur, HHH.out, HS, Lib.hid (Chg.refl _ _)⟩
  case round =>
    obtain ⟨j, hj1, hj2, hk, rfl, rfl, cs, hbl, HM, HC⟩ := hrel
    have HKK := Lib.hid hk
    clear hk
    by_cases hlt : j < n
    · have hjn : j < xs.length := by rw [← HN.out]; omega
      obtain ⟨x, hxj⟩ : ∃ x, xs[j]? = some x := ⟨_, List.getElem?_eq_getElem hjn⟩
      have hx : ¬ x = fn := fun h => HA.out j (by omega) (by rw [hxj, h])
      have cj : wr.cell? ⟨g, j, none⟩ = some (.int .i64 x) := by
        rw [cell_of_block hbl, HM.out.2.2.2 j (Nat.le_refl _)]
        exact HCU.out j _ (by unfold ints; rw [List.getElem?_map, hxj]; rfl)
      have ck : wr.cell? ⟨k, 0, none⟩ = some (.int .i64 fn) := HC.out.cell HK.out (fun e => hgk e.symm)
      have hjc : j < cur.size := by have := H3.out; omega
      have hsz : cs.size = cur.size := HM.out.1
      have cp : ∃ u, wr.cell? ⟨g, j - 1, none⟩ = some u := by
        rw [cell_of_block hbl, Array.getElem?_eq_getElem (by omega)]
        exact ⟨_, rfl⟩
      obtain ⟨u0, cp⟩ := cp
      have fp := frozen_of_block hbl (j - 1)
      have HXJ := Lib.hid hxj
      have HSZ := Lib.hid (And.intro hjc hsz)
      obtain ⟨p, hp⟩ : ∃ p, j = p + 1 := ⟨j - 1, by omega⟩
      subst hp
      rw [Nat.add_sub_cancel] at cp fp
      have e1 : (((p + 1 : Nat) : Int) - 1) = p := by omega
      rw [e1]
      have HBL := Lib.hid hbl
      clear hxj hjn hjc hsz hbl e1
      go_wp2_with fail
      refine (drop1_any x fn k wr ck).mono ?_; rintro e w1 ⟨rfl, rfl⟩
      rw [decide_eq_false hx]
      go_wp2_with fail
      go_roundg (n + (i + 1) - (p + 1 + 1))
      case measure => have := HKK.out; omega
      case rel => exact ⟨p + 1 + 1, by omega, by omega, rfl, by go_num, by go_num, _, heap_set HBL.out p _, Lib.hid (by
          have := HM.out.step hj1 x HXJ.out HSZ.out.1
          rwa [Nat.add_sub_cancel] at this), Lib.hid (HC.out.setCell (fun _ => rfl) _)⟩
    · obtain rfl : j = n := by omega
      obtain ⟨p, hp⟩ : ∃ p, j = p + 1 := ⟨j - 1, by omega⟩
      subst hp
      have hsz : cs.size = cur.size := HM.out.1
      have cp : ∃ u, wr.cell? ⟨g, p, none⟩ = some u := by
        rw [cell_of_block hbl, Array.getElem?_eq_getElem (by have := H3.out; omega)]
        exact ⟨_, rfl⟩
      obtain ⟨u0, cp⟩ := cp
      have fp := frozen_of_block hbl p
      have hclc : ∀ t, t < 1 → (wr.cell? ⟨g, p + t, none⟩).isSome = true := fun t ht => by
        obtain rfl : t = 0 := by omega
        rw [Nat.add_zero, cp]
        rfl
      have hclf : ∀ t, t < 1 → wr.frozen? ⟨g, p + t, none⟩ = false := fun t ht => by
        obtain rfl : t = 0 := by omega
        exact fp
      have hcl : ∀ ty, (Builtin.clear_ #[58] ty #[.slice (some ⟨g, p, none⟩) 1 (cap - p)]).run Tryd.prog wr = .ok (.tuple #[]) (wr.setCells g p (List.replicate 1 (.int .i64 0))) := fun ty =>
        Lib.run_clear_slice wr _ _ ty _ Tryd.underlying58 zeroI rfl rfl g p 1 _ (by omega) hclc hclf
      clear hclc hclf
      have e1 : (((p + 1 : Nat) : Int) - 1) = p := by omega
      have e2 : p + 1 - p = 1 := by omega
      have e3 : ¬ cap = p := by omega
      rw [e1]
      have HBL := Lib.hid hbl
      clear hbl hsz e1
      go_wp2_with fail
      rw [setCells_one]
      go_ret
      refine ⟨.slice (some ⟨g, 0, none⟩) p cap, rfl, ?_, rfl, (HC.out.setCell (fun _ => rfl) _).mono (fun _ _ e => by subst e; rfl)⟩
      rw [Nat.add_sub_cancel]
      exact row_erased hin HN.out HM.out H2.out (by have := H3.out; omega) (by omega) (heap_set HBL.out p _)
end Go.Proofs.YtgiegkacilfofabDoor
