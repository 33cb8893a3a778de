/- CacheOldest: the walk of the law. -/
import Derived.Test.YthmjmggeihonnaaCacheB
import Derived.Deep.LoopGhost
namespace Go.Proofs.Ythmjmggeihonnaa
set_option linter.unusedVariables false
set_option linter.unusedSimpArgs false
open Go.RowKit Go.Deep

def ent1 (t : Nat) : Int × List InsR := ((t : Int), oneR t)
/-- the last C of j -/
def winl (C j : Nat) : List (Int × List InsR) := (List.range' (j - C) (j - (j - C))).map ent1
theorem winl_length (C j : Nat) : (winl C j).length = j - (j - C) := by simp [winl]
theorem winl_mem {C j : Nat} {e : Int × List InsR} (h : e ∈ winl C j) : ∃ t : Nat, j - C ≤ t ∧ t < j ∧ e = ent1 t := by
  obtain ⟨t, ht, rfl⟩ := List.mem_map.1 h
  rw [List.mem_range'_1] at ht
  exact ⟨t, by omega, by omega, rfl⟩
theorem winl_getl_none (C j : Nat) : getl (winl C j) j = none := by
  unfold getl
  rw [Option.map_eq_none_iff, List.find?_eq_none]
  intro e he
  obtain ⟨t, h1, h2, rfl⟩ := winl_mem he
  simp only [ent1, beq_iff_eq]
  omega
theorem find_range (s : Nat) : ∀ (n a : Nat), s ≤ a → a < s + n → ((List.range' s n).map ent1).find? (fun e => e.1 == (a : Int)) = some (ent1 a) := by
  intro n
  induction n generalizing s with
  | zero => intro a h1 h2; omega
  | succ n ih =>
    intro a h1 h2
    rw [List.range'_succ, List.map_cons, List.find?_cons]
    by_cases e : s = a
    · subst e
      simp [ent1]
    · have : ((ent1 s).1 == (a : Int)) = false := by simp only [ent1, beq_eq_false_iff_ne, ne_eq]; omega
      rw [this]
      exact ih (s + 1) a (by omega) (by omega)
theorem winl_getl {C j a : Nat} (h1 : j - C ≤ a) (h2 : a < j) : getl (winl C j) a = some (oneR a) := by
  unfold getl winl
  rw [find_range _ _ _ h1 (by omega)]
  rfl
theorem winl_put_room {C j : Nat} (h : j < C) : putv C (winl C j) j (oneR j) = (0, false, winl C (j + 1)) := by
  unfold putv
  rw [winl_getl_none]
  have e : ¬ ((winl C j).length : Int) = C := by rw [winl_length]; omega
  rw [if_neg (by simp), if_neg e]
  have e1 : j - C = 0 := by omega
  have e2 : j + 1 - C = 0 := by omega
  unfold winl
  rw [e1, e2, Nat.sub_zero, Nat.sub_zero, List.range'_1_concat, List.map_append]
  simp [ent1]
theorem winl_put_full {C j : Nat} (h0 : 1 ≤ C) (h : C ≤ j) : putv C (winl C j) j (oneR j) = (((j - C : Nat) : Int), true, winl C (j + 1)) := by
  unfold putv
  rw [winl_getl_none]
  have e : ((winl C j).length : Int) = C := by rw [winl_length]; omega
  rw [if_neg (by simp), if_pos e]
  have e1 : j - (j - C) = (C - 1) + 1 := by omega
  have e2 : j + 1 - (j + 1 - C) = (C - 1) + 1 := by omega
  have e3 : j + 1 - C = (j - C) + 1 := by omega
  have hw : winl C j = ent1 (j - C) :: (List.range' ((j - C) + 1) (C - 1)).map ent1 := by
    unfold winl
    rw [e1, List.range'_succ, List.map_cons]
  have hw2 : winl C (j + 1) = (List.range' ((j - C) + 1) (C - 1)).map ent1 ++ [ent1 j] := by
    unfold winl
    rw [e2, e3, List.range'_1_concat, List.map_append]
    have : j - C + 1 + (C - 1) = j := by omega
    rw [this]
    rfl
  have hh : ((winl C j).map Prod.fst).headD 0 = ((j - C : Nat) : Int) := by rw [hw]; rfl
  rw [hh]
  have hf : (winl C j).filter (fun e => e.1 != ((j - C : Nat) : Int)) = (List.range' ((j - C) + 1) (C - 1)).map ent1 := by
    rw [hw, List.filter_cons, if_neg (by simp [ent1]), List.filter_eq_self]
    intro x hx
    obtain ⟨t, ht, rfl⟩ := List.mem_map.1 hx
    rw [List.mem_range'_1] at ht
    simp only [ent1, bne_iff_ne, ne_eq]
    omega
  rw [hf, hw2]
  rfl
theorem winl_fst (C j k : Nat) (h : k < j - (j - C)) : ((winl C j).map Prod.fst)[k]? = some (((j - C + k : Nat)) : Int) := by
  unfold winl
  rw [List.map_map, List.getElem?_map, List.getElem?_range' h]
  simp [ent1]

def LdRel (w0 : World) (c : Nat) (CI : Int) (C N : Nat) (k : Nat) (i : Value) (wr : World) : Prop :=
  ∃ (j : Nat), j ≤ N ∧ k = N - j ∧ i = .int .i64 j ∧ CB w0 wr (fun _ => False) c CI j (winl C j)

set_option maxHeartbeats 8000000 in
set_option maxRecDepth 100000 in
theorem cacheOldest_walk (q : Int) (n : Int) (w : World) (hq : (Lit.int .i64 q).wf = true) (hn : (Lit.int .i64 n).wf = true) :
    Calls Try.prog 5 #[.int .i64 q, .int .i64 n] w fun e w' => e = .returned (.bool true) ∧ Below w.heap.size w w' := by
  suffices hs : ∀ w0, w0 = w → Calls Try.prog 5 #[.int .i64 q, .int .i64 n] w fun e w' => e = .returned (.bool true) ∧ Below w0.heap.size w0 w' from hs w rfl
  intro w0 hw0
  have HW := Lib.hid hw0
  clear hw0 hn hq
  obtain ⟨m, hm⟩ : ∃ m, bits .and .i64 n 65535 = m := ⟨_, rfl⟩
  have hm0 : 0 ≤ m ∧ m ≤ 65535 := by rw [← hm, and_mask16]; omega
  obtain ⟨hm0, hm1⟩ := hm0
  obtain ⟨N, hN⟩ : ∃ N : Nat, (N : Int) = m % 101 := ⟨(m % 101).toNat, by omega⟩
  have hN2 : N ≤ 100 := by omega
  have HN := Lib.hid hN
  clear hN
  have hcs : (q < 1 ∧ clampc q = 1) ∨ (¬ q < 1 ∧ 32 < q ∧ clampc q = 32) ∨ (¬ q < 1 ∧ ¬ 32 < q ∧ clampc q = q) := by
    unfold clampc
    by_cases h1 : q < 1
    · exact .inl ⟨h1, if_pos h1⟩
    · by_cases h2 : 32 < q
      · exact .inr (.inl ⟨h1, h2, by rw [if_neg h1, if_pos h2]⟩)
      · exact .inr (.inr ⟨h1, h2, by rw [if_neg h1, if_neg h2]⟩)
  rcases hcs with ⟨hq1, e⟩ | ⟨hq1, hq2, e⟩ | ⟨hq1, hq2, e⟩
  · have HC := Lib.hid e
    clear e
    go_enter Try.func5, Try.ntmps5
    go_wp2_with fail
    refine (shown_any _).mono ?_; rintro e w1 ⟨rfl, hb1⟩
    have HB1 : Hid (Below w0.heap.size w0 w1) := by rw [HW.out]; exact hb1
    clear hb1
    go_wp2_with fail
    refine (CB.new HB1.out q 1 HC.out).mono ?_; rintro e w2 ⟨c, rfl, h2⟩
    go_wp2_with fail
    rw [← HN.out]
    go_loopg [8] N (fun k i wr => LdRel w0 c 1 1 N k i wr)
    case atStart => exact ⟨0, by omega, rfl, rfl, by have e : winl 1 0 = [] := by simp [winl]
                                                     rw [e]; exact h2⟩
    case round =>
      clear h2
      obtain ⟨j, hj, hk, rfl, h2⟩ := hrel
      have HK := Lib.hid hk
      clear hk
      by_cases hlt : j < N
      · have hltI : (j : Int) < (N : Int) := by omega
        go_wp2_with fail
        refine (h2.one j).mono ?_; rintro e w3 ⟨g, cp, rfl, t1, h3, _⟩
        clear h2
        go_wp2_with fail
        by_cases hC : j < 1
        · refine (h3.put j (WalkArith.wf_i64 (by omega)) _ (oneR j) t1 (by simp [oneR]) (by omega) 0 false _ (winl_put_room (C := 1) hC)).mono ?_; rintro e w4 ⟨rfl, h4, _⟩
          replace h4 := h4.free
          clear h3 t1
          have hC3 : ¬ 1 ≤ (j : Int) := by omega
          have hC4 : (j : Int) < 1 := by omega
          go_wp2_with fail
          go_roundg (N - (j + 1))
          case measure => have := HK.out; omega
          case rel => exact ⟨j + 1, by omega, rfl, by go_num, h4⟩
        · have hpv : putv 1 (winl 1 j) j (oneR j) = ((j : Int) - 1, true, winl 1 (j + 1)) := by
            have e : ((j - 1 : Nat) : Int) = (j : Int) - 1 := by omega
            have h := winl_put_full (C := 1) (j := j) (by omega) (by omega)
            rw [e] at h
            exact h
          refine (h3.put j (WalkArith.wf_i64 (by omega)) _ (oneR j) t1 (by simp [oneR]) (by omega) ((j : Int) - 1) true (winl 1 (j + 1)) hpv).mono ?_; rintro e w4 ⟨rfl, h4, _⟩
          replace h4 := h4.free
          clear h3 t1 hpv
          have hC3 : 1 ≤ (j : Int) := by omega
          have hC4 : ¬ (j : Int) < 1 := by omega
          go_wp2_with fail
          go_roundg (N - (j + 1))
          case measure => have := HK.out; omega
          case rel => exact ⟨j + 1, by omega, rfl, by go_num, h4⟩
      · obtain rfl : j = N := by omega
        clear hm hm0 hm1
        go_wp2_with fail
        obtain ⟨L, hL⟩ : ∃ L, L = j - (j - 1) := ⟨_, rfl⟩
        have hLl : ((winl 1 j).map Prod.fst).length = L := by rw [List.length_map, winl_length, hL]
        obtain ⟨xs, hxs⟩ : ∃ xs, xs = (winl 1 j).map Prod.fst := ⟨_, rfl⟩
        rw [← hxs] at hLl
        have HXS := Lib.hid hxs
        refine (h2.held xs hxs.symm).mono ?_; rintro e w3 ⟨A, cp, rfl, ho, t1, h3, _⟩
        rw [hLl] at ho t1 ⊢
        clear h2 hxs
        have HO := Lib.hid ho
        have hLm : min (j : Int) 1 = (L : Int) := by omega
        have hLmn : min j 1 = L := by omega
        have hif : (if 1 < (j : Int) then 1 else (j : Int)) = (L : Int) := by split <;> omega
        have hif2 : (if 1 < j then 1 else (j : Int)) = (L : Int) := by split <;> omega
        have HL := Lib.hid hL
        have hL1 : L ≤ j := by omega
        have hL2 : j - 1 = j - L := by omega
        have hL3 : (0 : Int) ≤ (j : Int) - L := by omega
        have HLX := Lib.hid hLl
        clear hL hLl ho
        go_wp2_with fail
        go_loopg [12] L (fun r i wr => ∃ k : Nat, k ≤ L ∧ r = L - k ∧ i = .int .i64 k ∧ ∃ X, CB w0 wr X c 1 j (winl 1 j) ∧ Tmp w0 wr X (.slice A L cp) L (ints xs))
        case atStart => exact ⟨0, by omega, rfl, rfl, _, h3, t1⟩
        case round =>
          clear h3 t1
          obtain ⟨k, hk1, hk2, rfl, X, h3, t1⟩ := hrel
          have HKK := Lib.hid hk2
          clear hk2
          by_cases hkl : k < L
          · have hklI : (k : Int) < (L : Int) := by omega
            obtain ⟨x, hx⟩ : ∃ x : Int, x = (j : Int) - L + k := ⟨_, rfl⟩
            have hxk : xs[k]? = some x := by
              rw [HXS.out, winl_fst 1 j k (by have := HL.out; omega), hx]
              congr 1
              omega
            have hcell : ∀ wx X, Tmp w0 wx X (.slice A L cp) L (ints xs) → ∃ b off, A = some ⟨b, off, none⟩ ∧ wx.cell? ⟨b, off + k, none⟩ = some (.int .i64 x) := fun wx X t => by
              rcases t.src with ⟨_, h0, _⟩ | ⟨b, off, cap, e, _, _, _, hc⟩
              · omega
              · injection e with e1 e2 e3
                exact ⟨b, off, e1, hc k _ (by unfold ints; rw [List.getElem?_map, hxk]; rfl)⟩
            obtain ⟨b, off, rfl, hc1⟩ := hcell _ _ t1
            have hget : (getl (winl 1 j) x).isSome = true ∧ (getl (winl 1 j) x).getD [] = oneR x := by
              have e : x = ((j - 1 + k : Nat) : Int) := by have := HL.out; omega
              rw [e, winl_getl (by omega) (by have := HL.out; omega)]
              exact ⟨rfl, rfl⟩
            have hwx : (Lit.int .i64 x).wf = true := WalkArith.wf_i64 (by omega)
            have HX := Lib.hid hx
            have HCELL := Lib.hid hcell
            clear hxk hcell
            have ex1 : (j : Int) - L + k = x := hx.symm
            clear hx
            have ew1 : IntKind.i64.wrap ((j : Int) - L) = (j : Int) - L := by rw [IntKind.wrap_i64]; omega
            have ew2 : IntKind.i64.wrap x = x := by rw [IntKind.wrap_i64]; have := HX.out; omega
            go_wp2_with fail
            refine (h3.get x hwx true (oneR x) hget).mono ?_; rintro e w4 ⟨A4, cp4, rfl, _, t4, h4, hc4⟩
            replace t1 := t1.keptO hc4
            clear hc1 h3 hc4
            obtain ⟨b', off', e1, hc1⟩ := HCELL.out _ _ t1
            injection e1 with e1
            injection e1 with e1 e2
            subst e1 e2
            go_wp2_with fail
            refine (h4.one x).mono ?_; rintro e w5 ⟨g5, cp5, rfl, t5, h5, hc5⟩
            replace t1 := t1.keptO hc5
            replace t4 := t4.keptO hc5
            clear hc1 h4 hc5
            go_wp2_with fail
            refine (h5.alike t4 t5 rfl rfl true (by simp)).mono ?_; rintro e w6 ⟨rfl, m6, rfl⟩
            replace h5 := h5.drewN m6
            replace t1 := t1.drewN m6
            clear t4 t5
            go_wp2_with fail
            go_roundg (L - (k + 1))
            case measure => have := HKK.out; omega
            case rel => exact ⟨k + 1, by omega, rfl, by go_num, _, h5, t1⟩
          · go_wp2_with fail
            go_ret
            exact ⟨rfl, h3.bel⟩
  · have HC := Lib.hid e
    clear e
    go_enter Try.func5, Try.ntmps5
    go_wp2_with fail
    refine (shown_any _).mono ?_; rintro e w1 ⟨rfl, hb1⟩
    have HB1 : Hid (Below w0.heap.size w0 w1) := by rw [HW.out]; exact hb1
    clear hb1
    go_wp2_with fail
    refine (CB.new HB1.out q 32 HC.out).mono ?_; rintro e w2 ⟨c, rfl, h2⟩
    go_wp2_with fail
    rw [← HN.out]
    go_loopg [8] N (fun k i wr => LdRel w0 c 32 32 N k i wr)
    case atStart => exact ⟨0, by omega, rfl, rfl, by have e : winl 32 0 = [] := by simp [winl]
                                                     rw [e]; exact h2⟩
    case round =>
      clear h2
      obtain ⟨j, hj, hk, rfl, h2⟩ := hrel
      have HK := Lib.hid hk
      clear hk
      by_cases hlt : j < N
      · have hltI : (j : Int) < (N : Int) := by omega
        go_wp2_with fail
        refine (h2.one j).mono ?_; rintro e w3 ⟨g, cp, rfl, t1, h3, _⟩
        clear h2
        go_wp2_with fail
        by_cases hC : j < 32
        · refine (h3.put j (WalkArith.wf_i64 (by omega)) _ (oneR j) t1 (by simp [oneR]) (by omega) 0 false _ (winl_put_room (C := 32) hC)).mono ?_; rintro e w4 ⟨rfl, h4, _⟩
          replace h4 := h4.free
          clear h3 t1
          have hC3 : ¬ 32 ≤ (j : Int) := by omega
          have hC4 : (j : Int) < 32 := by omega
          go_wp2_with fail
          go_roundg (N - (j + 1))
          case measure => have := HK.out; omega
          case rel => exact ⟨j + 1, by omega, rfl, by go_num, h4⟩
        · have hpv : putv 32 (winl 32 j) j (oneR j) = ((j : Int) - 32, true, winl 32 (j + 1)) := by
            have e : ((j - 32 : Nat) : Int) = (j : Int) - 32 := by omega
            have h := winl_put_full (C := 32) (j := j) (by omega) (by omega)
            rw [e] at h
            exact h
          refine (h3.put j (WalkArith.wf_i64 (by omega)) _ (oneR j) t1 (by simp [oneR]) (by omega) ((j : Int) - 32) true (winl 32 (j + 1)) hpv).mono ?_; rintro e w4 ⟨rfl, h4, _⟩
          replace h4 := h4.free
          clear h3 t1 hpv
          have hC3 : 32 ≤ (j : Int) := by omega
          have hC4 : ¬ (j : Int) < 32 := by omega
          go_wp2_with fail
          go_roundg (N - (j + 1))
          case measure => have := HK.out; omega
          case rel => exact ⟨j + 1, by omega, rfl, by go_num, h4⟩
      · obtain rfl : j = N := by omega
        clear hm hm0 hm1
        go_wp2_with fail
        obtain ⟨L, hL⟩ : ∃ L, L = j - (j - 32) := ⟨_, rfl⟩
        have hLl : ((winl 32 j).map Prod.fst).length = L := by rw [List.length_map, winl_length, hL]
        obtain ⟨xs, hxs⟩ : ∃ xs, xs = (winl 32 j).map Prod.fst := ⟨_, rfl⟩
        rw [← hxs] at hLl
        have HXS := Lib.hid hxs
        refine (h2.held xs hxs.symm).mono ?_; rintro e w3 ⟨A, cp, rfl, ho, t1, h3, _⟩
        rw [hLl] at ho t1 ⊢
        clear h2 hxs
        have HO := Lib.hid ho
        have hLm : min (j : Int) 32 = (L : Int) := by omega
        have hLmn : min j 32 = L := by omega
        have hif : (if 32 < (j : Int) then 32 else (j : Int)) = (L : Int) := by split <;> omega
        have hif2 : (if 32 < j then 32 else (j : Int)) = (L : Int) := by split <;> omega
        have HL := Lib.hid hL
        have hL1 : L ≤ j := by omega
        have hL2 : j - 32 = j - L := by omega
        have hL3 : (0 : Int) ≤ (j : Int) - L := by omega
        have HLX := Lib.hid hLl
        clear hL hLl ho
        go_wp2_with fail
        go_loopg [12] L (fun r i wr => ∃ k : Nat, k ≤ L ∧ r = L - k ∧ i = .int .i64 k ∧ ∃ X, CB w0 wr X c 32 j (winl 32 j) ∧ Tmp w0 wr X (.slice A L cp) L (ints xs))
        case atStart => exact ⟨0, by omega, rfl, rfl, _, h3, t1⟩
        case round =>
          clear h3 t1
          obtain ⟨k, hk1, hk2, rfl, X, h3, t1⟩ := hrel
          have HKK := Lib.hid hk2
          clear hk2
          by_cases hkl : k < L
          · have hklI : (k : Int) < (L : Int) := by omega
            obtain ⟨x, hx⟩ : ∃ x : Int, x = (j : Int) - L + k := ⟨_, rfl⟩
            have hxk : xs[k]? = some x := by
              rw [HXS.out, winl_fst 32 j k (by have := HL.out; omega), hx]
              congr 1
              omega
            have hcell : ∀ wx X, Tmp w0 wx X (.slice A L cp) L (ints xs) → ∃ b off, A = some ⟨b, off, none⟩ ∧ wx.cell? ⟨b, off + k, none⟩ = some (.int .i64 x) := fun wx X t => by
              rcases t.src with ⟨_, h0, _⟩ | ⟨b, off, cap, e, _, _, _, hc⟩
              · omega
              · injection e with e1 e2 e3
                exact ⟨b, off, e1, hc k _ (by unfold ints; rw [List.getElem?_map, hxk]; rfl)⟩
            obtain ⟨b, off, rfl, hc1⟩ := hcell _ _ t1
            have hget : (getl (winl 32 j) x).isSome = true ∧ (getl (winl 32 j) x).getD [] = oneR x := by
              have e : x = ((j - 32 + k : Nat) : Int) := by have := HL.out; omega
              rw [e, winl_getl (by omega) (by have := HL.out; omega)]
              exact ⟨rfl, rfl⟩
            have hwx : (Lit.int .i64 x).wf = true := WalkArith.wf_i64 (by omega)
            have HX := Lib.hid hx
            have HCELL := Lib.hid hcell
            clear hxk hcell
            have ex1 : (j : Int) - L + k = x := hx.symm
            clear hx
            have ew1 : IntKind.i64.wrap ((j : Int) - L) = (j : Int) - L := by rw [IntKind.wrap_i64]; omega
            have ew2 : IntKind.i64.wrap x = x := by rw [IntKind.wrap_i64]; have := HX.out; omega
            go_wp2_with fail
            refine (h3.get x hwx true (oneR x) hget).mono ?_; rintro e w4 ⟨A4, cp4, rfl, _, t4, h4, hc4⟩
            replace t1 := t1.keptO hc4
            clear hc1 h3 hc4
            obtain ⟨b', off', e1, hc1⟩ := HCELL.out _ _ t1
            injection e1 with e1
            injection e1 with e1 e2
            subst e1 e2
            go_wp2_with fail
            refine (h4.one x).mono ?_; rintro e w5 ⟨g5, cp5, rfl, t5, h5, hc5⟩
            replace t1 := t1.keptO hc5
            replace t4 := t4.keptO hc5
            clear hc1 h4 hc5
            go_wp2_with fail
            refine (h5.alike t4 t5 rfl rfl true (by simp)).mono ?_; rintro e w6 ⟨rfl, m6, rfl⟩
            replace h5 := h5.drewN m6
            replace t1 := t1.drewN m6
            clear t4 t5
            go_wp2_with fail
            go_roundg (L - (k + 1))
            case measure => have := HKK.out; omega
            case rel => exact ⟨k + 1, by omega, rfl, by go_num, _, h5, t1⟩
          · go_wp2_with fail
            go_ret
            exact ⟨rfl, h3.bel⟩
  · obtain ⟨C, rfl⟩ := Int.eq_ofNat_of_zero_le (show 0 ≤ q by omega)
    have HC := Lib.hid e
    have hC1 : 1 ≤ C := by omega
    have hC2 : C ≤ 32 := by omega
    clear e
    go_enter Try.func5, Try.ntmps5
    go_wp2_with fail
    refine (shown_any _).mono ?_; rintro e w1 ⟨rfl, hb1⟩
    have HB1 : Hid (Below w0.heap.size w0 w1) := by rw [HW.out]; exact hb1
    clear hb1
    go_wp2_with fail
    refine (CB.new HB1.out (C : Int) (C : Int) HC.out).mono ?_; rintro e w2 ⟨c, rfl, h2⟩
    go_wp2_with fail
    rw [← HN.out]
    go_loopg [8] N (fun k i wr => LdRel w0 c (C : Int) C N k i wr)
    case atStart => exact ⟨0, by omega, rfl, rfl, by have e : winl C 0 = [] := by simp [winl]
                                                     rw [e]; exact h2⟩
    case round =>
      clear h2
      obtain ⟨j, hj, hk, rfl, h2⟩ := hrel
      have HK := Lib.hid hk
      clear hk
      by_cases hlt : j < N
      · have hltI : (j : Int) < (N : Int) := by omega
        go_wp2_with fail
        refine (h2.one j).mono ?_; rintro e w3 ⟨g, cp, rfl, t1, h3, _⟩
        clear h2
        go_wp2_with fail
        by_cases hC : j < C
        · refine (h3.put j (WalkArith.wf_i64 (by omega)) _ (oneR j) t1 (by simp [oneR]) (by omega) 0 false _ (winl_put_room (C := C) hC)).mono ?_; rintro e w4 ⟨rfl, h4, _⟩
          replace h4 := h4.free
          clear h3 t1
          have hC3 : ¬ (C : Int) ≤ (j : Int) := by omega
          have hC4 : (j : Int) < (C : Int) := by omega
          go_wp2_with fail
          go_roundg (N - (j + 1))
          case measure => have := HK.out; omega
          case rel => exact ⟨j + 1, by omega, rfl, by go_num, h4⟩
        · have hpv : putv (C : Int) (winl C j) j (oneR j) = ((j : Int) - (C : Int), true, winl C (j + 1)) := by
            have e : ((j - C : Nat) : Int) = (j : Int) - (C : Int) := by omega
            have h := winl_put_full (C := C) (j := j) (by omega) (by omega)
            rw [e] at h
            exact h
          refine (h3.put j (WalkArith.wf_i64 (by omega)) _ (oneR j) t1 (by simp [oneR]) (by omega) ((j : Int) - (C : Int)) true (winl C (j + 1)) hpv).mono ?_; rintro e w4 ⟨rfl, h4, _⟩
          replace h4 := h4.free
          clear h3 t1 hpv
          have hC3 : (C : Int) ≤ (j : Int) := by omega
          have hC4 : ¬ (j : Int) < (C : Int) := by omega
          go_wp2_with fail
          go_roundg (N - (j + 1))
          case measure => have := HK.out; omega
          case rel => exact ⟨j + 1, by omega, rfl, by go_num, h4⟩
      · obtain rfl : j = N := by omega
        clear hm hm0 hm1
        go_wp2_with fail
        obtain ⟨L, hL⟩ : ∃ L, L = j - (j - C) := ⟨_, rfl⟩
        have hLl : ((winl C j).map Prod.fst).length = L := by rw [List.length_map, winl_length, hL]
        obtain ⟨xs, hxs⟩ : ∃ xs, xs = (winl C j).map Prod.fst := ⟨_, rfl⟩
        rw [← hxs] at hLl
        have HXS := Lib.hid hxs
        refine (h2.held xs hxs.symm).mono ?_; rintro e w3 ⟨A, cp, rfl, ho, t1, h3, _⟩
        rw [hLl] at ho t1 ⊢
        clear h2 hxs
        have HO := Lib.hid ho
        have hLm : min (j : Int) (C : Int) = (L : Int) := by omega
        have hLmn : min j C = L := by omega
        have hif : (if (C : Int) < (j : Int) then (C : Int) else (j : Int)) = (L : Int) := by split <;> omega
        have hif2 : (if C < j then (C : Int) else (j : Int)) = (L : Int) := by split <;> omega
        have HL := Lib.hid hL
        have hL1 : L ≤ j := by omega
        have hL2 : j - C = j - L := by omega
        have hL3 : (0 : Int) ≤ (j : Int) - L := by omega
        have HLX := Lib.hid hLl
        clear hL hLl ho
        go_wp2_with fail
        go_loopg [12] L (fun r i wr => ∃ k : Nat, k ≤ L ∧ r = L - k ∧ i = .int .i64 k ∧ ∃ X, CB w0 wr X c (C : Int) j (winl C j) ∧ Tmp w0 wr X (.slice A L cp) L (ints xs))
        case atStart => exact ⟨0, by omega, rfl, rfl, _, h3, t1⟩
        case round =>
          clear h3 t1
          obtain ⟨k, hk1, hk2, rfl, X, h3, t1⟩ := hrel
          have HKK := Lib.hid hk2
          clear hk2
          by_cases hkl : k < L
          · have hklI : (k : Int) < (L : Int) := by omega
            obtain ⟨x, hx⟩ : ∃ x : Int, x = (j : Int) - L + k := ⟨_, rfl⟩
            have hxk : xs[k]? = some x := by
              rw [HXS.out, winl_fst C j k (by have := HL.out; omega), hx]
              congr 1
              omega
            have hcell : ∀ wx X, Tmp w0 wx X (.slice A L cp) L (ints xs) → ∃ b off, A = some ⟨b, off, none⟩ ∧ wx.cell? ⟨b, off + k, none⟩ = some (.int .i64 x) := fun wx X t => by
              rcases t.src with ⟨_, h0, _⟩ | ⟨b, off, cap, e, _, _, _, hc⟩
              · omega
              · injection e with e1 e2 e3
                exact ⟨b, off, e1, hc k _ (by unfold ints; rw [List.getElem?_map, hxk]; rfl)⟩
            obtain ⟨b, off, rfl, hc1⟩ := hcell _ _ t1
            have hget : (getl (winl C j) x).isSome = true ∧ (getl (winl C j) x).getD [] = oneR x := by
              have e : x = ((j - C + k : Nat) : Int) := by have := HL.out; omega
              rw [e, winl_getl (by omega) (by have := HL.out; omega)]
              exact ⟨rfl, rfl⟩
            have hwx : (Lit.int .i64 x).wf = true := WalkArith.wf_i64 (by omega)
            have HX := Lib.hid hx
            have HCELL := Lib.hid hcell
            clear hxk hcell
            have ex1 : (j : Int) - L + k = x := hx.symm
            clear hx
            have ew1 : IntKind.i64.wrap ((j : Int) - L) = (j : Int) - L := by rw [IntKind.wrap_i64]; omega
            have ew2 : IntKind.i64.wrap x = x := by rw [IntKind.wrap_i64]; have := HX.out; omega
            go_wp2_with fail
            refine (h3.get x hwx true (oneR x) hget).mono ?_; rintro e w4 ⟨A4, cp4, rfl, _, t4, h4, hc4⟩
            replace t1 := t1.keptO hc4
            clear hc1 h3 hc4
            obtain ⟨b', off', e1, hc1⟩ := HCELL.out _ _ t1
            injection e1 with e1
            injection e1 with e1 e2
            subst e1 e2
            go_wp2_with fail
            refine (h4.one x).mono ?_; rintro e w5 ⟨g5, cp5, rfl, t5, h5, hc5⟩
            replace t1 := t1.keptO hc5
            replace t4 := t4.keptO hc5
            clear hc1 h4 hc5
            go_wp2_with fail
            refine (h5.alike t4 t5 rfl rfl true (by simp)).mono ?_; rintro e w6 ⟨rfl, m6, rfl⟩
            replace h5 := h5.drewN m6
            replace t1 := t1.drewN m6
            clear t4 t5
            go_wp2_with fail
            go_roundg (L - (k + 1))
            case measure => have := HKK.out; omega
            case rel => exact ⟨k + 1, by omega, rfl, by go_num, _, h5, t1⟩
          · go_wp2_with fail
            go_ret
            exact ⟨rfl, h3.bel⟩
end Go.Proofs.Ythmjmggeihonnaa
