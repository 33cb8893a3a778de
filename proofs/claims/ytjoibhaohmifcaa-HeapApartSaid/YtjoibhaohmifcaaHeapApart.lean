/- HeapApart: the walk of the law. -/
import Derived.Test.YtjoibhaohmifcaaHeapMore
import Derived.Deep.LoopGhost
import Derived.Lib.Hide
import Derived.OpenShut
namespace Go.Proofs.Ytjoibhaohmifcaa
set_option linter.unusedVariables false
set_option linter.unusedSimpArgs false
open Go.RowKit Go.Deep

/-- arrays told by a function: the i-th has sz i cells, its k-th cell f i k -/
def arrs (sz : Nat → Nat) (m : Nat) (f : Nat → Nat → Int) : List (List Int) := (List.range m).map fun i => (List.range (sz i)).map (f i)
theorem arrs_get (sz : Nat → Nat) (m : Nat) (f : Nat → Nat → Int) (i : Nat) : (arrs sz m f)[i]? = if i < m then some ((List.range (sz i)).map (f i)) else none := by
  unfold arrs
  rw [List.getElem?_map]
  by_cases h : i < m
  · rw [if_pos h, List.getElem?_range h]; rfl
  · rw [if_neg h, List.getElem?_eq_none (by simp; omega)]; rfl
theorem row_get (n : Nat) (f : Nat → Int) (k : Nat) : ((List.range n).map f)[k]? = if k < n then some (f k) else none := by
  rw [List.getElem?_map]
  by_cases h : k < n
  · rw [if_pos h, List.getElem?_range h]; rfl
  · rw [if_neg h, List.getElem?_eq_none (by simp; omega)]; rfl
theorem cell_arrs (sz : Nat → Nat) (m : Nat) (f : Nat → Nat → Int) (i k : Nat) : cellv (arrs sz m f) i k = if i < m ∧ k < sz i then some (f i k) else none := by
  unfold cellv
  rw [if_pos (by omega)]
  simp only [Int.toNat_natCast, arrs_get]
  by_cases h : i < m
  · simp only [h, if_true, Option.bind_some, row_get, true_and]
  · simp [h]
theorem set_arrs (sz : Nat → Nat) (m : Nat) (f : Nat → Nat → Int) (i k : Nat) (v : Int) : setv (arrs sz m f) i k v = arrs sz m (fun a b => if a = i ∧ b = k then v else f a b) := by
  unfold setv
  rw [if_pos (by omega)]
  simp only [Int.toNat_natCast]
  apply List.ext_getElem?
  intro a
  rw [List.getElem?_modify, arrs_get, arrs_get]
  by_cases h : a < m
  · simp only [h, if_true]
    by_cases e : i = a
    · subst e
      simp only [if_true, Option.map_some, true_and, Option.some.injEq]
      show some _ = some _
      congr 1
      apply List.ext_getElem?
      intro b
      rw [row_get, List.getElem?_set, row_get]
      by_cases e2 : k = b
      · subst e2
        simp
      · have e3 : ¬ b = k := fun x => e2 x.symm
        simp [e2, e3]
    · have e3 : ¬ a = i := fun x => e x.symm
      simp [e, e3]
  · simp [h]
theorem len_arrs (sz : Nat → Nat) (m : Nat) (f : Nat → Nat → Int) (i : Nat) (h : i < m) : lenv (arrs sz m f) i = sz i := by
  unfold lenv
  rw [if_pos (by omega)]
  simp [arrs_get, h]
theorem arrs_succ (sz : Nat → Nat) (m : Nat) (f : Nat → Nat → Int) : arrs sz (m + 1) f = arrs sz m f ++ [(List.range (sz m)).map (f m)] := by
  unfold arrs
  rw [List.range_succ, List.map_append]
  rfl
theorem arrs_len (sz : Nat → Nat) (m : Nat) (f : Nat → Nat → Int) : (arrs sz m f).length = m := by simp [arrs]
theorem arrs_ext (sz : Nat → Nat) (m : Nat) (f g : Nat → Nat → Int) (h : ∀ a b, a < m → b < sz a → f a b = g a b) : arrs sz m f = arrs sz m g := by
  unfold arrs
  apply List.map_congr_left
  intro a ha
  apply List.map_congr_left
  intro b hb
  exact h a b (List.mem_range.1 ha) (List.mem_range.1 hb)
theorem arrs_total (sz : Nat → Nat) (hs : ∀ i, sz i ≤ 40) (m : Nat) (f : Nat → Nat → Int) : total (arrs sz m f) ≤ 40 * m := by
  induction m with
  | zero => simp [arrs, total]
  | succ m ih =>
    rw [arrs_succ, total_end]
    have := hs m
    simp
    omega
theorem arrs_make (sz : Nat → Nat) (h1 : ∀ i, 1 ≤ sz i) (hs : ∀ i, sz i ≤ 40) (m : Nat) (hm : m < 10) : makev 400 (arrs sz m fun _ _ => 0) (sz m) = ((m : Int), 0, arrs sz (m + 1) fun _ _ => 0) := by
  have a1 := h1 m
  have a2 := hs m
  have a3 := arrs_total sz hs m fun _ _ => 0
  unfold makev
  rw [if_neg (by omega), if_neg (by omega), arrs_len, arrs_succ]
  congr 3
  simp
  apply List.ext_getElem?
  intro k
  rw [List.getElem?_replicate, row_get]

/-- the cells that are set: those of arrays ahead of the i-th, and of that one the first k -/
def upTo (i k a b : Nat) : Int := if a < i ∨ (a = i ∧ b < k) then 1000 * a + b else 0
def allSet (a b : Nat) : Int := 1000 * a + b
theorem upTo_zero : upTo 0 0 = fun _ _ => 0 := by funext a b; unfold upTo; rw [if_neg (by omega)]
theorem upTo_set (i k : Nat) : (fun a b => if a = i ∧ b = k then ((1000 * (i : Int)) + k) else upTo i k a b) = upTo i (k + 1) := by
  funext a b
  unfold upTo
  by_cases h : a = i ∧ b = k
  · rw [if_pos h, if_pos (by omega), h.1, h.2]
  · rw [if_neg h]
    by_cases h2 : a < i ∨ (a = i ∧ b < k)
    · rw [if_pos h2, if_pos (by omega)]
    · rw [if_neg h2, if_neg (by omega)]
theorem upTo_next (sz : Nat → Nat) (m i : Nat) : arrs sz m (upTo i (sz i)) = arrs sz m (upTo (i + 1) 0) := by
  apply arrs_ext
  intro a b ha hb
  unfold upTo
  by_cases h : a < i ∨ (a = i ∧ b < sz i)
  · rw [if_pos h, if_pos (by omega)]
  · rw [if_neg h, if_neg]
    intro h2
    rcases h2 with h2 | h2
    · have : a = i := by omega
      subst this
      omega
    · omega
theorem upTo_all (sz : Nat → Nat) (m : Nat) : arrs sz m (upTo m 0) = arrs sz m allSet := by
  apply arrs_ext
  intro a b ha hb
  unfold upTo allSet
  rw [if_pos (by omega)]

theorem cell_neg (xss : List (List Int)) (i : Nat) : cellv xss i (-1) = none := by unfold cellv; rw [if_neg (by omega)]
theorem cell_past (sz : Nat → Nat) (m : Nat) (f : Nat → Nat → Int) (i : Nat) : cellv (arrs sz m f) i (sz i) = none := by rw [cell_arrs, if_neg (by omega)]

def szOf (zs : List Int) (i : Nat) : Nat := 1 + (zs.getD i 0).toNat % 40

def ARel (w0 : World) (g nn : Nat) (sz : Nat → Nat) (k : Nat) (i : Value) (wr : World) : Prop :=
  ∃ (j : Nat), j ≤ nn ∧ k = nn - j ∧ i = .int .i64 j ∧ HB w0 wr g 400 (arrs sz j fun _ _ => 0)
def ARel2 (w0 : World) (g nn : Nat) (sz : Nat → Nat) (k : Nat) (i : Value) (wr : World) : Prop :=
  ∃ (j : Nat), j ≤ nn ∧ k = nn - j ∧ i = .int .i64 j ∧ HB w0 wr g 400 (arrs sz nn (upTo j 0))
def ARel3 (w0 : World) (g nn : Nat) (sz : Nat → Nat) (j : Nat) (k : Nat) (i : Value) (wr : World) : Prop :=
  ∃ (t : Nat), t ≤ sz j ∧ k = sz j - t ∧ i = .int .i64 t ∧ HB w0 wr g 400 (arrs sz nn (upTo j t))
def ARel4 (w0 : World) (g nn : Nat) (sz : Nat → Nat) (f : Nat → Nat → Int) (k : Nat) (i : Value) (wr : World) : Prop :=
  ∃ (j : Nat), j ≤ nn ∧ k = nn - j ∧ i = .int .i64 j ∧ HB w0 wr g 400 (arrs sz nn f)
def ARel5 (w0 : World) (g nn : Nat) (sz : Nat → Nat) (f : Nat → Nat → Int) (j : Nat) (k : Nat) (i : Value) (wr : World) : Prop :=
  ∃ (t : Nat), t ≤ sz j ∧ k = sz j - t ∧ i = .int .i64 t ∧ HB w0 wr g 400 (arrs sz nn f)

set_option maxHeartbeats 8000000 in
set_option maxRecDepth 100000 in
theorem heapApart_walk (a : Option Addr) (len cap : Nat) (zs : List Int) (which at_ v : Int) (w : World) (hr : IntRow .u8 w a len zs) (hl : len * 1 ≤ 140737488351232) (hw1 : (Lit.int .i64 which).wf = true) (hw2 : (Lit.int .i64 at_).wf = true) (hv : (Lit.int .i64 v).wf = true) :
    Calls Try.prog 4 #[.slice a len cap, .int .i64 which, .int .i64 at_, .int .i64 v] w fun e w' => e = .returned (.bool true) ∧ Below w.heap.size w w' := by
  suffices hs : ∀ w0, w0 = w → ∀ nn : Nat, (nn = len ∧ len ≤ 10) ∨ (nn = 10 ∧ 10 < len) → Calls Try.prog 4 #[.slice a len cap, .int .i64 which, .int .i64 at_, .int .i64 v] w fun e w' => e = .returned (.bool true) ∧ Below w0.heap.size w0 w' by
    by_cases hh : len ≤ 10
    · exact hs w rfl len (.inl ⟨rfl, hh⟩)
    · exact hs w rfl 10 (.inr ⟨rfl, by omega⟩)
  intro w0 hw0 nn hnn
  have HR := Lib.hid hr
  have HW := Lib.hid hw0
  have hlen : len ≤ 9223372036854775807 := by omega
  clear hr hw0 hl hv
  obtain ⟨sz, hsz⟩ : ∃ sz, sz = szOf zs := ⟨_, rfl⟩
  have s1 : Hid (∀ i, 1 ≤ sz i) := Lib.hid fun i => by rw [hsz]; unfold szOf; omega
  have s2 : Hid (∀ i, sz i ≤ 40) := Lib.hid fun i => by rw [hsz]; unfold szOf; omega
  have HSZ := Lib.hid hsz
  clear hsz
  obtain ⟨m1, hm1⟩ : ∃ m, bits .and .i64 which 65535 = m := ⟨_, rfl⟩
  have hm10 : 0 ≤ m1 := by rw [← hm1, and_mask16]; omega
  obtain ⟨m2, hm2⟩ : ∃ m, bits .and .i64 at_ 65535 = m := ⟨_, rfl⟩
  have hm20 : 0 ≤ m2 := by rw [← hm2, and_mask16]; omega
  rcases hnn with ⟨hnn, hle⟩ | ⟨hnn, hle⟩
  all_goals
    have HNN := Lib.hid (And.intro hnn hle)
    have hn10 : nn ≤ 10 := by omega
    have hnl : nn ≤ len := by omega
    clear hnn hle
    have hc11 : True := trivial
    go_enter Try.func4, Try.ntmps4
    first | (have hle : len ≤ 10 := HNN.out.2) | (have hle : 10 < len := HNN.out.2)
    go_wp2_with fail
    refine (shown_any _).mono ?_; rintro e w1 ⟨rfl, hb1⟩
    have HB1 : Hid (Below w0.heap.size w0 w1) := by rw [HW.out]; exact hb1
    clear hb1
    go_wp2_with fail
    refine (HB.new HB1.out 400 400 (by decide)).mono ?_
    rintro e w2 ⟨g, rfl, hh⟩
    go_wp2_with fail
    clear hle
    go_loopg [12] nn (fun k i wr => ARel w0 g nn sz k i wr)
    case atStart => exact ⟨0, by omega, by omega, rfl, hh⟩
    case round =>
      clear hh
      obtain ⟨j, hj, hk, rfl, hh⟩ := hrel
      have HK := Lib.hid hk
      clear hk
      by_cases hlt : j < nn
      · have hlt1 : j < len := by omega
        have hlt2 : (j : Int) < 10 := by omega
        obtain ⟨b, off, rfl, hc⟩ := HR.out.at_ (by omega)
        obtain ⟨hz1, hz2⟩ := bounds_u8 (HR.out.wfD j hlt1)
        have hcj := hc j hlt1
        clear hc
        have hcw : wr.cell? ⟨b, off + j, none⟩ = some (.int .u8 (zs.getD j 0)) := by
          have hbl := World.block_lt_of_cell? w _ hcj
          have := hh.bel.cell (p := ⟨b, off + j, none⟩) (by rw [HW.out]; exact hbl)
          rw [this, HW.out]; exact hcj
        clear hcj
        have hsj : 1 + zs.getD j 0 % 40 = (sz j : Int) := by rw [HSZ.out]; unfold szOf; omega
        generalize zs.getD j 0 = z at *
        have hm := arrs_make sz s1.out s2.out j (by omega)
        have HM := Lib.hid hm
        clear hm
        go_wp2_with fail
        refine (hh.make (sz j) j 0 _ HM.out).mono ?_; rintro e w3 ⟨rfl, h3⟩
        go_wp2_with fail
        go_roundg (nn - (j + 1))
        case measure => have := HK.out; omega
        case rel => exact ⟨j + 1, by omega, rfl, by go_num, h3⟩
      · obtain rfl : j = nn := by omega
        first | (have hex : ¬ j < len := by have := HNN.out; omega) | (have hex : ¬ (j : Int) < 10 := by have := HNN.out; omega)
        go_wp2_with fail
        go_loopg [15] j (fun k i wr => ARel2 w0 g j sz k i wr)
        case atStart => exact ⟨0, by omega, by omega, rfl, by rw [upTo_zero]; exact hh⟩
        case round =>
          clear hh hex
          obtain ⟨i, hi, hk2, rfl, hh⟩ := hrel
          have HK2 := Lib.hid hk2
          clear hk2
          by_cases hlt : i < j
          · have hlt1 : i < len := by omega
            have hlt2 : (i : Int) < 10 := by omega
            go_wp2_with fail
            go_loopg [16] (sz i) (fun k x wr => ARel3 w0 g j sz i k x wr)
            case atStart => exact ⟨0, by omega, by omega, rfl, hh⟩
            case round =>
              clear hh
              obtain ⟨t, ht, hk3, rfl, hh⟩ := hrel
              have HK3 := Lib.hid hk3
              clear hk3
              have HL := Lib.hid (len_arrs sz j (upTo i t) i hlt)
              have hs40 := s2.out i
              by_cases htl : t < sz i
              · have hset : (cellv (arrs sz j (upTo i t)) i t).isSome = true ∧ setv (arrs sz j (upTo i t)) i t (1000 * (i : Int) + t) = arrs sz j (upTo i (t + 1)) := by
                  rw [cell_arrs, if_pos ⟨hlt, htl⟩, set_arrs, upTo_set]
                  exact ⟨rfl, rfl⟩
                have HS := Lib.hid hset
                clear hset
                go_wp2_with fail
                refine (hh.len i (sz i) (by rw [HL.out])).mono ?_; rintro e w4 ⟨rfl, rfl⟩
                go_wp2_with fail
                refine (hh.set i t (1000 * (i : Int) + t) true _ HS.out).mono ?_; rintro e w4 ⟨rfl, h4⟩
                go_wp2_with fail
                go_roundg (sz i - (t + 1))
                case measure => have := HK3.out; omega
                case rel => exact ⟨t + 1, by omega, rfl, by go_num, h4⟩
              · obtain rfl : t = sz i := by omega
                go_wp2_with fail
                refine (hh.len i (sz i) (by rw [HL.out])).mono ?_; rintro e w4 ⟨rfl, rfl⟩
                go_wp2_with fail
                go_roundg (j - (i + 1))
                case measure => have := HK2.out; omega
                case rel => exact ⟨i + 1, by omega, rfl, by go_num, by rw [← upTo_next]; exact hh⟩
          · obtain rfl : i = j := by omega
            rw [upTo_all] at hh
            first | (have hex : ¬ i < len := by have := HNN.out; omega) | (have hex : ¬ (i : Int) < 10 := by have := HNN.out; omega)
            by_cases hz : 0 < i
            · first | (have hz1 : 0 < len := by omega) | skip
              obtain ⟨wh, hwh⟩ : ∃ wh : Nat, m1 % (i : Int) = wh := ⟨(m1 % (i : Int)).toNat, by have := Int.emod_nonneg m1 (show (i : Int) ≠ 0 by omega); omega⟩
              have hwl : wh < i := by
                have := Int.emod_lt_of_pos m1 (show (0 : Int) < i by omega)
                omega
              first | (have hwr : m1 % (len : Int) = (wh : Int) := by rw [← hwh, HNN.out.1]) | (have hwr : m1 % 10 = (wh : Int) := by rw [← hwh, HNN.out.1]; rfl)
              have HWH := Lib.hid hwh
              clear hwh
              have hs1 := s1.out wh
              have hs2 := s2.out wh
              obtain ⟨ah, hah⟩ : ∃ ah : Nat, m2 % (sz wh : Int) = ah := ⟨(m2 % (sz wh : Int)).toNat, by have := Int.emod_nonneg m2 (show (sz wh : Int) ≠ 0 by omega); omega⟩
              have hal : ah < sz wh := by
                have := Int.emod_lt_of_pos m2 (show (0 : Int) < sz wh by omega)
                omega
              have HL := Lib.hid (len_arrs sz i allSet wh hwl)
              have hset : (cellv (arrs sz i allSet) wh ah).isSome = true ∧ setv (arrs sz i allSet) wh ah v = arrs sz i (fun a b => if a = wh ∧ b = ah then v else allSet a b) := by
                rw [cell_arrs, if_pos ⟨hwl, hal⟩, set_arrs]
                exact ⟨rfl, rfl⟩
              have HS := Lib.hid hset
              clear hset
              go_wp2_with fail
              refine (hh.len wh (sz wh) (by rw [HL.out])).mono ?_; rintro e w4 ⟨rfl, rfl⟩
              go_wp2_with fail
              refine (hh.set wh ah v true _ HS.out).mono ?_; rintro e w4 ⟨rfl, h4⟩
              clear hh
              obtain ⟨f, hf⟩ : ∃ f : Nat → Nat → Int, f = (fun a b => if a = wh ∧ b = ah then v else allSet a b) := ⟨_, rfl⟩
              rw [← hf] at h4
              have HF := Lib.hid hf
              clear hf
              go_wp2_with fail
              clear hex
              go_loopg [17] i (fun k x wr => ARel4 w0 g i sz f k x wr)
              case atStart => exact ⟨0, by omega, by omega, rfl, h4⟩
              case round =>
                clear h4
                obtain ⟨p, hp, hk4, rfl, hh⟩ := hrel
                have HK4 := Lib.hid hk4
                clear hk4
                by_cases hlt : p < i
                · have hlt1 : p < len := by omega
                  have hlt2 : (p : Int) < 10 := by omega
                  obtain ⟨b, off, rfl, hc⟩ := HR.out.at_ (by omega)
                  have HC : Hid (∀ wx, Below w0.heap.size w0 wx → wx.cell? ⟨b, off + p, none⟩ = some (.int .u8 (zs.getD p 0))) := Lib.hid fun wx hx => by
                    have hcj := hc p hlt1
                    have hbl := World.block_lt_of_cell? w _ hcj
                    have := hx.cell (p := ⟨b, off + p, none⟩) (by rw [HW.out]; exact hbl)
                    rw [this, HW.out]; exact hcj
                  clear hc
                  obtain ⟨hz1, hz2⟩ := bounds_u8 (HR.out.wfD p hlt1)
                  have hsj : 1 + zs.getD p 0 % 40 = (sz p : Int) := by rw [HSZ.out]; unfold szOf; omega
                  generalize zs.getD p 0 = z at *
                  go_wp2_with fail
                  go_loopg [18] (sz p) (fun k x wr => ARel5 w0 g i sz f p k x wr)
                  case atStart => exact ⟨0, by omega, by omega, rfl, hh⟩
                  case round =>
                    clear hh
                    obtain ⟨t, ht, hk5, rfl, hh⟩ := hrel
                    have HK5 := Lib.hid hk5
                    clear hk5
                    have hcw := HC.out wr hh.bel
                    have hs40 := s2.out p
                    by_cases htl : t < sz p
                    · have hcell : cellv (arrs sz i f) p t = some (f p t) := by rw [cell_arrs, if_pos ⟨hlt, htl⟩]
                      have HCELL := Lib.hid hcell
                      clear hcell
                      have hpw : (p = wh ∧ t = ah) ∨ (p = wh ∧ ¬ t = ah) ∨ ¬ p = wh := by omega
                      rcases hpw with ⟨e1, e2⟩ | ⟨e1, e2⟩ | e1
                      · subst e1; subst e2
                        have hfv : f p t = v := by rw [HF.out]; simp
                        have hg : (cellv (arrs sz i f) p t).getD 0 = v ∧ (cellv (arrs sz i f) p t).isSome = true := by rw [HCELL.out, hfv]; exact ⟨rfl, rfl⟩
                        have HG := Lib.hid hg
                        clear hg hfv
                        go_wp2_with fail
                        refine (hh.get p t v true HG.out).mono ?_; rintro e w4 ⟨rfl, rfl⟩
                        go_wp2_with fail
                        go_roundg (sz p - (t + 1))
                        case measure => have := HK5.out; omega
                        case rel => exact ⟨t + 1, by omega, rfl, by go_num, hh⟩
                      all_goals
                        (try subst e1)
                        have hfv : f p t = 1000 * (p : Int) + t := by
                          rw [HF.out]
                          exact (if_neg (by omega)).trans rfl
                        have hg : (cellv (arrs sz i f) p t).getD 0 = 1000 * (p : Int) + t ∧ (cellv (arrs sz i f) p t).isSome = true := by rw [HCELL.out, hfv]; exact ⟨rfl, rfl⟩
                        have HG := Lib.hid hg
                        clear hg hfv
                        go_wp2_with fail
                        refine (hh.get p t (1000 * (p : Int) + t) true HG.out).mono ?_; rintro e w4 ⟨rfl, rfl⟩
                        go_wp2_with fail
                        go_roundg (sz p - (t + 1))
                        case measure => have := HK5.out; omega
                        case rel => exact ⟨t + 1, by omega, rfl, by go_num, hh⟩
                    · obtain rfl : t = sz p := by omega
                      have HL := Lib.hid (len_arrs sz i f p hlt)
                      have HG1 : Hid ((cellv (arrs sz i f) p (-1)).getD 0 = 0 ∧ (cellv (arrs sz i f) p (-1)).isSome = false) := Lib.hid (by rw [cell_neg]; exact ⟨rfl, rfl⟩)
                      have HG2 : Hid ((cellv (arrs sz i f) p (sz p)).getD 0 = 0 ∧ (cellv (arrs sz i f) p (sz p)).isSome = false) := Lib.hid (by rw [cell_past]; exact ⟨rfl, rfl⟩)
                      go_wp2_with fail
                      refine (hh.get p (-1) 0 false HG1.out).mono ?_; rintro e w4 ⟨rfl, rfl⟩
                      go_wp2_with fail
                      refine (hh.len p (sz p) (by rw [HL.out])).mono ?_; rintro e w4 ⟨rfl, rfl⟩
                      go_wp2_with fail
                      refine (hh.get p (sz p) 0 false HG2.out).mono ?_; rintro e w4 ⟨rfl, rfl⟩
                      go_wp2_with fail
                      go_roundg (i - (p + 1))
                      case measure => have := HK4.out; omega
                      case rel => exact ⟨p + 1, by omega, rfl, by go_num, hh⟩
                · obtain rfl : p = i := by omega
                  first | (have hex : ¬ p < len := by have := HNN.out; omega) | (have hex : ¬ (p : Int) < 10 := by have := HNN.out; omega)
                  go_wp2_with fail
                  go_ret
                  exact ⟨rfl, hh.bel⟩
            · first
              | (exfalso; have := HNN.out; omega)
              | (have hlz : len = 0 := by have := HNN.out; omega
                 subst hlz
                 go_wp2_with fail
                 go_loopg [17] 0 (fun k x wr => x = .int .i64 0 ∧ HB w0 wr g 400 (arrs sz i allSet))
                 case atStart => exact ⟨rfl, hh⟩
                 case round =>
                   clear hh
                   obtain ⟨rfl, hh⟩ := hrel
                   go_wp2_with fail
                   go_ret
                   exact ⟨rfl, hh.bel⟩)
end Go.Proofs.Ytjoibhaohmifcaa
