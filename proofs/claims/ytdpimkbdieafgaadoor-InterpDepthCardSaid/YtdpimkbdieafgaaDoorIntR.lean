/- slices.Repeat of one number; slices.Clone of numbers. -/
import Derived.Test.YtdpimkbdieafgaaDoorIntC
import Derived.Test.YtdpimkbdieafgaaDoorFoldRun
import Derived.Test.YtdpimkbdieafgaaDoorOrd
import Derived.Laws.Bits64b
namespace Go.Proofs.YtdpimkbdieafgaaDoor
set_option linter.unusedVariables false
set_option linter.unusedSimpArgs false
open Go.RowKit

theorem and32 (n : Nat) (h : n < 4294967296) : bits .and .u64 (n : Int) 4294967295 = (n : Int) := by
  have := bits_and_u64_nat n 4294967295 (by omega) (by omega)
  rw [show ((4294967295 : Nat) : Int) = 4294967295 from rfl] at this
  rw [this, show (4294967295 : Nat) = 2 ^ 32 - 1 from rfl, Nat.and_two_pow_sub_one_eq_mod]
  congr 1
  omega
set_option maxRecDepth 100000 in
theorem mul64_one (n : Nat) (hn : n ≤ 64) (w : World) : Calls Tryd.prog 91 #[.int .u64 1, .int .u64 n] w fun e w' => e = .returned (.tuple #[.int .u64 0, .int .u64 n]) ∧ w' = w := by
  have h1 : bits .and .u64 1 4294967295 = 1 := and32 1 (by omega)
  have h2 := and32 n (by omega)
  have h0 : bits .and .u64 0 4294967295 = 0 := and32 0 (by omega)
  have h3 : (n : Int) / 4294967296 = 0 := by omega
  have h4 : (n : Int) / 2 ^ 32 = 0 := by omega
  have h5 : IntKind.u64.wrap (n : Int) = (n : Int) := by rw [show (n : Int) = ((n : Nat) : Int) from rfl]; unfold IntKind.wrap; simp [IntKind.bits, IntKind.signed]; omega
  go_enter Tryd.func91, Tryd.ntmps91
  go_wp2
  go_ret2
  exact ⟨rfl, rfl⟩
set_option maxRecDepth 100000 in
theorem mul_one (n : Nat) (hn : n ≤ 64) (w : World) : Calls Tryd.prog 72 #[.int .u64 1, .int .u64 n] w fun e w' => e = .returned (.tuple #[.int .u64 0, .int .u64 n]) ∧ w' = w := by
  have C := Lib.hid (mul64_one n hn w)
  go_enter Tryd.func72, Tryd.ntmps72
  go_wp2_with fail
  refine C.out.mono ?_; rintro e w1 ⟨rfl, rfl⟩
  go_wp2_with fail
  go_ret2
  exact ⟨rfl, rfl⟩
theorem mkI (n : Nat) (hn : n ≤ 64) : ∀ W : World, (Instr.makeSlice 131 (.int .i64 (n : Int)) (.int .i64 (n : Int))).run Tryd.prog W = .ok (.slice (some ⟨W.heap.size, 0, none⟩) n n) (W.alloc (.cells (madeCells #[.int .i64 0] n) 3)) := by
  intro W
  exact run_make_row' 131 3 (.int .i64 0) 8 Tryd.underlying131 (by kernel_rfl) rfl .i64 .i64 n (by omega) (by omega) W
theorem mkL (n : Nat) (hn : n ≤ 64) : ∀ W : World, (Instr.makeSlice 25 (.int .i64 (n : Int)) (.int .i64 (n : Int))).run Tryd.prog W = .ok (.slice (some ⟨W.heap.size, 0, none⟩) n n) (W.alloc (.cells (madeCells #[.int .i64 0] n) 2)) := by
  intro W
  exact run_make_row' 25 2 (.int .i64 0) 8 Tryd.underlying25 (by kernel_rfl) rfl .i64 .i64 n (by omega) (by omega) W
theorem sizeI : (Tryd.prog.info? 3).map (·.size) = some 1 := by kernel_rfl
theorem sizeL : (Tryd.prog.info? 2).map (·.size) = some 1 := by kernel_rfl
theorem made_size (n : Nat) : (madeCells #[.int .i64 0] n).size = n := by simp [madeCells]

/-- the first k of n cells of block G are the number x -/
structure Half (w : World) (G n k : Nat) (x : Int) (t : TypeId) : Prop where
  at_ : ∃ cur : Array Value, w.heap[G]? = some (.cells cur t (0, 0)) ∧ cur.size = n ∧ ∀ j, j < k → cur[j]? = some (.int .i64 x)
theorem Half.more {w : World} {G n k m : Nat} {x : Int} {t : TypeId} {cur : Array Value} (hb : w.heap[G]? = some (.cells cur t (0, 0))) (hs : cur.size = n) (hk : ∀ j, j < k → cur[j]? = some (.int .i64 x)) (hm : k + m ≤ n) :
    Half (w.setRow G (over cur.toList k (List.replicate m (.int .i64 x))).toArray) G n (k + m) x t := by
  refine ⟨_, setRow_heap w G cur _ t (0, 0) hb, ?_, fun j hj => ?_⟩
  · rw [List.size_toArray, over_length _ _ _ (by simp [hs]; omega)]; simpa using hs
  · rw [List.getElem?_toArray, over_get _ _ _ (by simp [hs]; omega)]
    by_cases h1 : j < k
    · rw [if_pos h1, Array.getElem?_toList]; exact hk j h1
    · rw [if_neg h1, if_pos (by simp; omega), List.getElem?_replicate, if_pos (by omega)]

set_option maxHeartbeats 1000000 in
set_option maxRecDepth 100000 in
theorem repeat_any {w : World} (n : Nat) (hn : n ≤ 64) {b c : Nat} {x : Int} (hx : w.cell? ⟨b, 0, none⟩ = some (.int .i64 x)) :
    Calls Tryd.prog 60 #[.slice (some ⟨b, 0, none⟩) 1 c, .int .i64 n] w fun e w' => ∃ G, e = .returned (.slice (some ⟨G, 0, none⟩) n n) ∧ w'.ownsRow 0 3 1 (.slice (some ⟨G, 0, none⟩) n n) n (nums (List.replicate n x)) ∧ w.heap.size ≤ G ∧ Chg (fun _ => False) w w' := by
  have CM := Lib.hid (fun w => mul_one n hn w)
  have hmk := mkI n hn
  have e1 : IntKind.u64.wrap (n : Int) = (n : Int) := by unfold IntKind.wrap; simp [IntKind.bits, IntKind.signed]; omega
  have e2 : IntKind.i64.wrap (n : Int) = (n : Int) := by rw [IntKind.wrap_i64]; omega
  have HX := Lib.hid hx
  clear hx
  go_enter Tryd.func60, Tryd.ntmps60
  go_wp2_with fail
  refine (CM.out _).mono ?_; rintro e w1 ⟨rfl, rfl⟩
  go_upto_region 7 with fail
  obtain ⟨w2, hw2⟩ : ∃ w2, w2 = w1.alloc (.cells (madeCells #[.int .i64 0] n) 3) := ⟨_, rfl⟩
  obtain ⟨G, hG⟩ : ∃ G, G = w1.heap.size := ⟨_, rfl⟩
  rw [← hw2, ← hG]
  have hb2 : w2.heap[G]? = some (.cells (madeCells #[.int .i64 0] n) 3 (0, 0)) := by rw [hw2]; exact heap_new' hG.symm
  have hc2 : Chg (fun _ => False) w1 w2 := by rw [hw2]; exact (Chg.refl _ _).alloc _
  have hx2 := hc2.cell HX.out (fun x => x)
  obtain ⟨m, hm⟩ : ∃ m, m = Nat.min 1 n := ⟨_, rfl⟩
  have hmn : m ≤ n := by rw [hm]; exact Nat.min_le_right _ _
  have hm1 : m ≤ 1 := by rw [hm]; exact Nat.min_le_left _ _
  have hcp := copy_cells (P := Tryd.prog) w2 131 131 3 3 1 G 0 n n ⟨b, 0, none⟩ 1 c (madeCells #[.int .i64 0] n) 3 (List.replicate m (.int .i64 x)) Tryd.underlying131 sizeI hb2 (by simp [hm]) (fun j v hj => by
    have hj1 : j < m := by have := (List.getElem?_eq_some_iff.1 hj).1; simpa using this
    have : j = 0 := by omega
    subst this
    rw [List.getElem?_replicate, if_pos (by omega)] at hj
    injection hj with hj
    rw [← hj, add0]
    exact hx2) (by simp [made_size]; omega) (by intro v hv; rw [List.eq_of_mem_replicate hv]; rfl)
  rw [← hm] at hcp
  have hHf : Half (w2.setRow G (over (madeCells #[.int .i64 0] n).toList 0 (List.replicate m (.int .i64 x))).toArray) G n (0 + m) x 3 := Half.more hb2 (made_size n) (fun j hj => by omega) (by omega)
  rw [Nat.zero_add] at hHf
  have hc3 : Chg (fun k => w1.heap.size ≤ k) w1 (w2.setRow G (over (madeCells #[.int .i64 0] n).toList 0 (List.replicate m (.int .i64 x))).toArray) := (hc2.mono (fun _ _ x => x.elim)).setRow (fun hl => by omega) _
  have HH := Lib.hid (And.intro hHf hc3)
  have HCP := Lib.hid hcp
  have HMM := Lib.hid hm
  have HGG := Lib.hid hG
  have hmd : m < n → 1 ≤ m := fun h => by rw [hm]; exact Nat.le_min.2 ⟨Nat.le_refl 1, by omega⟩
  have HMD := Lib.hid hmd
  obtain ⟨w3, hw3⟩ : ∃ w3, w3 = w2.setRow G (over (madeCells #[.int .i64 0] n).toList 0 (List.replicate m (.int .i64 x))).toArray := ⟨_, rfl⟩
  rw [← hw3] at HH HCP
  clear hmk hw2 hG hb2 hc2 hx2 hcp hHf hc3 hm hmd hw3
  have hcp := HCP.out
  go_wp2_with fail
  clear hcp
  go_loopg [8] (n - m) (fun kk V wr => ∃ k : Nat, k ≤ n ∧ kk = n - k ∧ V = .int .i64 (k : Int) ∧ Hid (k < n → 1 ≤ k) ∧ Hid (Half wr G n k x 3) ∧ Hid (Chg (fun k => w1.heap.size ≤ k) w1 wr))
  case atStart => exact ⟨m, hmn, by omega, rfl, HMD, Lib.hid HH.out.1, Lib.hid HH.out.2⟩
  case round =>
    obtain ⟨k, hk, hkk, rfl, HK1, HHF, HCH⟩ := hrel
    have HKK := Lib.hid hkk
    clear hkk HH HCP
    by_cases hlt : k < n
    · have hk1 := HK1.out hlt
      have hne : ¬ n = k := by omega
      obtain ⟨m2, hm2⟩ : ∃ m2, m2 = Nat.min k (n - k) := ⟨_, rfl⟩
      have hm2a : m2 ≤ k := by rw [hm2]; exact Nat.min_le_left _ _
      have hm2b : m2 ≤ n - k := by rw [hm2]; exact Nat.min_le_right _ _
      have hm2c : 1 ≤ m2 := by rw [hm2]; exact Nat.le_min.2 ⟨hk1, by omega⟩
      go_upto_region 9 with fail
      obtain ⟨wd, hwd⟩ : ∃ wd, wd = wr.drew := ⟨_, rfl⟩
      obtain ⟨cur, hb, hs, hcs⟩ := HHF.out.at_
      have hbd : wd.heap[G]? = some (.cells cur 3 (0, 0)) := by rw [hwd]; exact hb
      have hcp := copy_cells (P := Tryd.prog) wd 131 131 3 3 1 G k (n - k) (n - k) ⟨G, 0, none⟩ k n cur 3 (List.replicate m2 (.int .i64 x)) Tryd.underlying131 sizeI hbd (by simp [hm2]) (fun j v hj => by
        have hj1 : j < m2 := by have := (List.getElem?_eq_some_iff.1 hj).1; simpa using this
        rw [List.getElem?_replicate, if_pos hj1] at hj
        injection hj with hj
        rw [← hj, add0, cell_of_block hbd j]
        exact hcs j (by omega)) (by simp [hs]; omega) (by intro v hv; rw [List.eq_of_mem_replicate hv]; rfl)
      rw [← hm2] at hcp
      clear hm2
      have hwk : IntKind.i64.wrap ((k : Int) + (m2 : Int)) = ((k + m2 : Nat) : Int) := by rw [IntKind.wrap_i64]; omega
      have hHf := Half.more hbd hs hcs (m := m2) (by omega)
      have hcd : Chg (fun k => w1.heap.size ≤ k) w1 wd := by rw [hwd]; exact HCH.out.drew
      obtain ⟨we, hwe⟩ : ∃ we, we = wd.setRow G (over cur.toList k (List.replicate m2 (.int .i64 x))).toArray := ⟨_, rfl⟩
      have hce : Chg (fun k => w1.heap.size ≤ k) w1 we := by rw [hwe]; exact hcd.setRow (fun hl => by have := HGG.out; omega) _
      rw [← hwe] at hcp hHf
      have HE := Lib.hid (And.intro hHf hce)
      refine wp_region_ord (S := fun w' => True) (N := fun i => true) (by kernel_rfl) [(0, true), (1, true), (2, true), (3, true), (4, true), (5, true), (6, true), (7, false), (8, true), (9, true)] (by kernel_rfl) ?_
      rw [← hwd]
      clear hwd hb hs hcs hbd hwe hHf hce hcd
      iterate 7 (refine ord_look rfl trivial rfl (by intro w hS; go_simp; with_reducible rfl) (fun c a w h => h) ?_; simp only [Act.put, List.setIfInBounds_toArray, List.set_cons_succ, List.set_cons_zero])
      refine ord_act rfl rfl (fun K hK => ?_)
      refine wp_copy_of _ _ _ _ _ rfl _ _ rfl rfl hcp ?_
      refine hK _ _ ⟨fun _ => trivial, ?_⟩
      clear hK K hcp
      try simp only [Act.put, List.setIfInBounds_toArray, List.set_cons_succ, List.set_cons_zero]
      iterate 2 (refine ord_look rfl trivial rfl (by intro w hS; go_simp; with_reducible rfl) (fun c a w h => h) ?_; simp only [Act.put, List.setIfInBounds_toArray, List.set_cons_succ, List.set_cons_zero])
      refine ord_end ?_
      have HM2 := Lib.hid (And.intro hm2c hm2b)
      go_wp2_with fail
      go_roundg (n - (k + m2))
      case measure => have := HKK.out; have := HM2.out; omega
      case rel => exact ⟨k + m2, by omega, rfl, by go_num, Lib.hid (fun _ => by omega), Lib.hid HE.out.1, Lib.hid HE.out.2⟩
    · obtain rfl : k = n := by omega
      go_wp2_with fail
      go_ret
      obtain ⟨cur, hb, hs, hcs⟩ := HHF.out.at_
      refine ⟨G, rfl, ⟨by simp [nums], .inr ⟨G, k, cur, rfl, Nat.zero_le _, hb, Nat.le_refl _, by unfold maxLen; omega, by omega, ?_⟩⟩, by rw [HGG.out]; exact Nat.le_refl _, ?_⟩
      · apply List.ext_getElem?
        intro j
        rw [Nat.mul_one, List.getElem?_take, Array.getElem?_toList]
        by_cases h : j < k
        · rw [if_pos h, hcs j h]
          simp [nums, h]
        · rw [if_neg h]
          simp [nums, h]
      · exact ⟨HCH.out.os, HCH.out.tape, HCH.out.output, HCH.out.size, fun i hi _ => HCH.out.block i hi (by omega)⟩

/-! ### Clone -/
set_option maxRecDepth 100000 in
theorem cloneL_some {w : World} {ad : Addr} {n cap : Nat} {cs : List Value} (hcs : ∀ (j : Nat) u, cs[j]? = some u → w.cell? (ad.add j) = some u) (hl : cs.length = n * 1) (h1 : ∀ u ∈ cs, u.oneCell' = true) (hn : n ≤ 1048576) :
    Calls Tryd.prog 34 #[.slice (some ad) n cap] w fun e w' => ∃ v', e = .returned v' ∧ w'.ownsRow 0 2 1 v' n cs ∧ (∀ k, v'.ownBlock = some k → w.heap.size ≤ k) ∧ Chg (fun _ => False) w w' := by
  obtain ⟨i0, hi, hz0, hz1, hz2⟩ := info_parts infoL
  have hrow : (w.alloc (.cells #[] 2)).ownsRow 0 2 1 (.slice (some ⟨w.heap.size, 0, none⟩) 0 0) 0 [] :=
    ⟨rfl, .inr ⟨w.heap.size, 0, #[], rfl, Nat.zero_le _, heap_new _ _, Nat.le_refl _, by simp [maxLen], rfl, rfl⟩⟩
  have hnews : ∀ (j : Nat) u, cs[j]? = some u → (w.alloc (.cells #[] 2)).cell? (ad.add j) = some u := fun j u hu => cell_alloc (hcs j u hu) _
  have HR := Lib.hid hrow
  have HNW := Lib.hid hnews
  clear hcs hnews hrow
  have hnil := Go.run_eql_slice_nil (P := Tryd.prog) w 25 _ (some ad) n cap Tryd.underlying25
  simp only [Option.isNone] at hnil
  go_enter Tryd.func34, Tryd.ntmps34
  go_wp2_with (at_builtin; refine wpList_append_own_at _ rfl _ _ 25 rfl 0 2 i0 _ 1 8 Tryd.underlying25 hi hz0 hz1 hz2 rfl (by omega) (.slice (some ⟨w.heap.size, 0, none⟩) 0 0) 0 [] rfl HR.out ad n cap cs rfl hl HNW.out h1 (by unfold maxLen; omega) (by omega) (by omega) ?_; intro v' w' h2 h3 _ h5; simp only [Nat.zero_add, List.nil_append] at h2)
  go_ret
  refine ⟨v', rfl, h2, fun k hk => ?_, ((Chg.refl (fun _ => False) w).alloc _).grownBy h3 (fun k hk hlt => ?_)⟩
  · rcases h5 with h5 | h5
    · rw [h5] at hk
      have hk : w.heap.size = k := by injection hk
      omega
    · rw [h5] at hk
      injection hk with hk
      rw [← hk]
      simp
  · have hk : w.heap.size = k := by injection hk
    omega
set_option maxRecDepth 100000 in
theorem cloneL_nil {w : World} {cap : Nat} :
    Calls Tryd.prog 34 #[.slice none 0 cap] w fun e w' => ∃ v', e = .returned v' ∧ w'.ownsRow 0 2 1 v' 0 [] ∧ (∀ k, v'.ownBlock = some k → w.heap.size ≤ k) ∧ Chg (fun _ => False) w w' := by
  have hnil := Go.run_eql_slice_nil (P := Tryd.prog) w 25 _ none 0 cap Tryd.underlying25
  simp only [Option.isNone] at hnil
  go_enter Tryd.func34, Tryd.ntmps34
  go_wp2_with fail
  go_ret
  exact ⟨_, rfl, World.ownsRow_nil _ _ _ _, (fun k hk => by cases hk), Chg.refl _ _⟩
theorem NumSrc.of_row {w : World} {t : TypeId} {V : Value} {l : List Int} (h : w.ownsRow 0 t 1 V l.length (nums l)) : NumSrc w V l := by
  rcases h.2 with ⟨rfl, h0⟩ | ⟨g, cap, cur, rfl, hb, hh, h1, h2, h3, h4⟩
  · exact ⟨none, 0, by rw [h0], by omega, by simp [maxLen], fun h => by omega⟩
  · refine ⟨_, cap, rfl, h1, h2, fun _ => ⟨g, 0, rfl, fun j x hx => ?_⟩⟩
    have hj := (List.getElem?_eq_some_iff.1 hx).1
    rw [Nat.zero_add, cell_of_block hh j]
    have h5 : (nums l)[j]? = some (.int .i64 x) := by simp [nums, hx]
    rw [← h4, List.getElem?_take, if_pos (by omega), Array.getElem?_toList] at h5
    exact h5
theorem cloneL_any {w : World} {V : Value} {l : List Int} (h : NumSrc w V l) (hn : l.length ≤ 1048576) :
    Calls Tryd.prog 34 #[V] w fun e w' => ∃ v', e = .returned v' ∧ NumSrc w' v' l ∧ (∀ k, v'.ownBlock = some k → w.heap.size ≤ k) ∧ Chg (fun _ => False) w w' := by
  obtain ⟨A, c, rfl, h1, h2, h3⟩ := h
  have hcs : ∃ B, A = some B ∨ (A = none ∧ l = []) := by
    cases A with
    | some B => exact ⟨B, .inl rfl⟩
    | none =>
      refine ⟨⟨0, 0, none⟩, .inr ⟨rfl, ?_⟩⟩
      cases l with
      | nil => rfl
      | cons x l => obtain ⟨_, _, e, _⟩ := h3 (by simp); cases e
  obtain ⟨B, rfl | ⟨rfl, rfl⟩⟩ := hcs
  · refine (cloneL_some (cs := nums l) (fun j u hu => ?_) (by rw [nums_length]; omega) (fun u hu => by obtain ⟨x, _, rfl⟩ := List.mem_map.1 hu; rfl) hn).mono ?_
    · have hj : j < l.length := by have := (List.getElem?_eq_some_iff.1 hu).1; rwa [nums_length] at this
      obtain ⟨b, off, e, h4⟩ := h3 (by omega)
      injection e with e
      subst e
      have e1 : (⟨b, off, none⟩ : Addr).add j = ⟨b, off + j, none⟩ := by unfold Addr.add; split <;> simp_all
      rw [nums_get l j hj] at hu
      injection hu with hu
      rw [e1, ← hu]
      exact h4 j _ (List.getElem?_eq_getElem hj)
    · rintro e w' ⟨v', rfl, ho, hk, hc⟩
      exact ⟨v', rfl, NumSrc.of_row ho, hk, hc⟩
  · refine cloneL_nil.mono ?_
    rintro e w' ⟨v', rfl, ho, hk, hc⟩
    exact ⟨v', rfl, NumSrc.of_row (l := []) ho, hk, hc⟩
end Go.Proofs.YtdpimkbdieafgaaDoor
