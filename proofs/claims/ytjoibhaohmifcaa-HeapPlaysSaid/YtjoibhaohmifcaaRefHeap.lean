/- The document's heap: sizes, and puts: what its memory is, and what its methods do. -/
import Derived.Test.YtjoibhaohmifcaaHeapMore
import Derived.Deep.LoopGhost
import Derived.Deep.QuietTactic
import Derived.BigQuiet
import Derived.Deep.AppendLies
import Derived.Lib.Hide
namespace Go.Proofs.Ytjoibhaohmifcaa
set_option linter.unusedVariables false
set_option linter.unusedSimpArgs false
open Go.RowKit Go.Deep

theorem info2 : (Try.prog.info? 2).map (fun i => (i.zero, i.size, i.bytes)) = some (some (.int .i64 0), 1, 8) := by kernel_rfl
theorem infoPut : (Try.prog.info? 58).map (fun i => (i.zero, i.size, i.bytes)) = some (some (.agg #[.int .i64 0, .int .i64 0, .int .i64 0]), 3, 24) := by kernel_rfl

structure PutR where
  id : Int
  i : Int
  v : Int
def PutR.cells (p : PutR) : List Value := [.int .i64 p.id, .int .i64 p.i, .int .i64 p.v]

structure RSt (w : World) (S : Nat → Prop) (r : Nat) (q : Int) (vs vp : Value) (sizes : List Int) (puts : List PutR) : Prop where
  hr : S r
  blk : w.heap[r]? = some (.cells #[.int .i64 q, vs, vp] 30 (0, 0))
  ownS : w.ownsRow 0 2 1 vs sizes.length (sizes.map (Value.int .i64))
  ownP : w.ownsRow 0 58 3 vp puts.length (puts.flatMap PutR.cells)
  neS : ∀ k, vs.ownBlock = some k → S k ∧ k ≠ r
  neP : ∀ k, vp.ownBlock = some k → S k ∧ k ≠ r
  ne : ∀ k, vs.ownBlock = some k → vp.ownBlock ≠ some k

theorem RSt.kept {w w' : World} {S T : Nat → Prop} {r : Nat} {q : Int} {vs vp : Value} {sizes : List Int} {puts : List PutR} (h : RSt w S r q vs vp sizes puts) (hc : Chg T w w') (hn : ∀ k, S k → ¬ T k) : RSt w' S r q vs vp sizes puts :=
  ⟨h.hr, hc.heap h.blk (hn _ h.hr), ownsRow_kept h.ownS hc (fun k hk => hn _ (h.neS k hk).1), ownsRow_kept h.ownP hc (fun k hk => hn _ (h.neP k hk).1), h.neS, h.neP, h.ne⟩
theorem RSt.mono {w : World} {S S' : Nat → Prop} {r : Nat} {q : Int} {vs vp : Value} {sizes : List Int} {puts : List PutR} (h : RSt w S r q vs vp sizes puts) (hS : ∀ k, S k → S' k) : RSt w S' r q vs vp sizes puts :=
  ⟨hS _ h.hr, h.blk, h.ownS, h.ownP, fun k hk => ⟨hS _ (h.neS k hk).1, (h.neS k hk).2⟩, fun k hk => ⟨hS _ (h.neP k hk).1, (h.neP k hk).2⟩, h.ne⟩
theorem RSt.bound {w : World} {S : Nat → Prop} {r : Nat} {q : Int} {vs vp : Value} {sizes : List Int} {puts : List PutR} (h : RSt w S r q vs vp sizes puts) : RSt w (fun k => S k ∧ k < w.heap.size) r q vs vp sizes puts :=
  ⟨⟨h.hr, lt_of_heap h.blk⟩, h.blk, h.ownS, h.ownP, fun k hk => ⟨⟨(h.neS k hk).1, (h.ownS.lt k hk).2⟩, (h.neS k hk).2⟩, fun k hk => ⟨⟨(h.neP k hk).1, (h.ownP.lt k hk).2⟩, (h.neP k hk).2⟩, h.ne⟩
theorem RSt.of_heap {w w' : World} (e : w'.heap = w.heap) {S : Nat → Prop} {r : Nat} {q : Int} {vs vp : Value} {sizes : List Int} {puts : List PutR} (h : RSt w S r q vs vp sizes puts) : RSt w' S r q vs vp sizes puts := by
  obtain ⟨heap, t, d, os, out⟩ := w
  obtain ⟨heap', t', d', os', out'⟩ := w'
  simp only at e
  subst e
  exact ⟨h.hr, h.blk, h.ownS, h.ownP, h.neS, h.neP, h.ne⟩

/-- the sum of sizes -/
def sumL (l : List Int) : Int := l.foldl (· + ·) 0
theorem sumL_take (l : List Int) (j : Nat) (h : j < l.length) : sumL (l.take (j + 1)) = sumL (l.take j) + l.getD j 0 := by
  unfold sumL
  rw [List.take_succ_eq_append_getElem h, List.foldl_append]
  simp [List.getD_eq_getElem?_getD, h]

/-! ### Used -/
set_option maxHeartbeats 1000000 in
set_option maxRecDepth 100000 in
theorem rused_any {w : World} {S : Nat → Prop} {r : Nat} {q : Int} {vs vp : Value} {sizes : List Int} {puts : List PutR} (h : RSt w S r q vs vp sizes puts) (hb : ∀ j, j ≤ sizes.length → 0 ≤ sumL (sizes.take j) ∧ sumL (sizes.take j) ≤ 1048576) (hn : sizes.length ≤ 1048576) :
    Calls Try.prog 18 #[.pointer (some ⟨r, 0, none⟩)] w fun e w' => e = .returned (.int .i64 (sumL sizes)) ∧ w' = w := by
  have c1 := cell_of_block h.blk 1
  simp at c1
  obtain ⟨_, A, c, rfl⟩ := ownsRow_slice h.ownS
  have HO := Lib.hid h.ownS
  have HB := Lib.hid hb
  obtain ⟨n, hN⟩ : ∃ n, n = sizes.length := ⟨_, rfl⟩
  rw [← hN] at c1 hn
  have HN := Lib.hid hN
  clear h hb hN
  go_enter Try.func18, Try.ntmps18
  go_wp2
  go_loop [3, 4] (fun s i => ∃ j : Nat, j ≤ n ∧ i = .int .i64 j ∧ s = .int .i64 (sumL (sizes.take j))) (fun _ i => n - (intOf i).toNat)
  case atStart => exact ⟨0, by omega, rfl, rfl⟩
  case round =>
    obtain ⟨j, hj, rfl, rfl⟩ := hrel
    by_cases hlt : j < n
    · obtain ⟨g, cap, e, _, _, hc⟩ := ownsRow_get HO.out j (by rw [← HN.out]; exact hlt)
      have hcj := hc (.int .i64 (sizes.getD j 0)) (by have := HN.out; simp [List.getD_eq_getElem?_getD, show j < sizes.length by omega])
      clear hc
      injection e with e1 e2 e3
      subst e1
      have hs := sumL_take sizes j (by rw [← HN.out]; exact hlt)
      obtain ⟨b1, b2⟩ := HB.out j (by rw [← HN.out]; omega)
      have b3 := HB.out (j + 1) (by rw [← HN.out]; omega)
      rw [hs] at b3
      obtain ⟨b3, b4⟩ := b3
      have HS := Lib.hid hs
      clear hs
      generalize sizes.getD j 0 = z at *
      obtain ⟨t, ht⟩ : ∃ t, t = sumL (sizes.take j) := ⟨_, rfl⟩
      rw [← ht] at b1 b2 b3 b4
      rw [← ht]
      have HT := Lib.hid ht
      clear ht
      go_wp2
      go_round
      case rel => exact ⟨j + 1, by omega, by go_num, by rw [HS.out, HT.out]⟩
      case measure => simp [intOf]; omega
    · go_wp2
      go_ret
      have : j = sizes.length := by have := HN.out; omega
      rw [this, List.take_length]
      exact ⟨rfl, rfl⟩

/-! ### Len -/
def rlenv (sizes : List Int) (id : Int) : Int := if 0 ≤ id then sizes.getD id.toNat 0 else 0

set_option maxRecDepth 100000 in
theorem rlen_any {w : World} {S : Nat → Prop} {r : Nat} {q : Int} {vs vp : Value} {sizes : List Int} {puts : List PutR} (h : RSt w S r q vs vp sizes puts) (id : Int) (hn : sizes.length ≤ 1048576) :
    Calls Try.prog 20 #[.pointer (some ⟨r, 0, none⟩), .int .i64 id] w fun e w' => e = .returned (.int .i64 (rlenv sizes id)) ∧ w' = w := by
  have c1 := cell_of_block h.blk 1
  simp at c1
  obtain ⟨_, A, c, rfl⟩ := ownsRow_slice h.ownS
  have HO := Lib.hid h.ownS
  by_cases h0 : id < 0
  · have e : rlenv sizes id = 0 := by unfold rlenv; rw [if_neg (by omega)]
    rw [e]
    clear h HO e
    generalize sizes.length = n at *
    go_enter Try.func20, Try.ntmps20
    go_wp2
    go_ret
    exact ⟨rfl, rfl⟩
  · obtain ⟨k, rfl⟩ := Int.eq_ofNat_of_zero_le (show 0 ≤ id by omega)
    by_cases hk : k < sizes.length
    · obtain ⟨g, cap, e, _, _, hc⟩ := ownsRow_get HO.out k hk
      have hcj := hc (.int .i64 (sizes.getD k 0)) (by simp [List.getD_eq_getElem?_getD, hk])
      injection e with e1 e2 e3
      subst e1
      have e : rlenv sizes k = sizes.getD k 0 := by unfold rlenv; rw [if_pos (by omega)]; simp
      rw [e]
      clear h HO e hc
      generalize sizes.getD k 0 = z at *
      generalize sizes.length = n at *
      go_enter Try.func20, Try.ntmps20
      go_wp2
      go_ret
      exact ⟨rfl, rfl⟩
    · have e : rlenv sizes k = 0 := by unfold rlenv; rw [if_pos (by omega)]; simp [List.getD_eq_getElem?_getD, List.getElem?_eq_none (show sizes.length ≤ k by omega)]
      rw [e]
      clear h HO e
      generalize sizes.length = n at *
      go_enter Try.func20, Try.ntmps20
      go_wp2
      go_ret
      exact ⟨rfl, rfl⟩

/-! ### Get -/
def PutR.is (p : PutR) (id i : Int) : Bool := p.id == id && p.i == i
def lastp : List PutR → Int → Int → Int
  | l, id, i => match l.reverse.find? (·.is id i) with
    | some p => p.v
    | none => 0
theorem lastp_snoc (l : List PutR) (p : PutR) (id i : Int) : lastp (l ++ [p]) id i = if p.is id i then p.v else lastp l id i := by
  unfold lastp
  simp only [List.reverse_append, List.reverse_singleton, List.singleton_append, List.find?_cons]
  cases p.is id i <;> simp
theorem lastp_take (l : List PutR) (k : Nat) (h : k < l.length) (id i : Int) : lastp (l.take (k + 1)) id i = if l[k].is id i then l[k].v else lastp (l.take k) id i := by
  rw [List.take_succ_eq_append_getElem h, lastp_snoc]

theorem flat_get (l : List PutR) (k : Nat) (h : k < l.length) : (l.flatMap PutR.cells)[k * 3]? = some (.int .i64 l[k].id) ∧ (l.flatMap PutR.cells)[k * 3 + 1]? = some (.int .i64 l[k].i) ∧ (l.flatMap PutR.cells)[k * 3 + 2]? = some (.int .i64 l[k].v) := by
  induction l generalizing k with
  | nil => simp at h
  | cons p l ih =>
    cases k with
    | zero => simp [PutR.cells]
    | succ k =>
      have := ih k (by simpa using h)
      simp only [List.flatMap_cons, List.getElem_cons_succ]
      have hp : p.cells.length = 3 := rfl
      rw [List.getElem?_append_right (by omega), List.getElem?_append_right (by omega), List.getElem?_append_right (by omega), hp]
      rw [show (k + 1) * 3 - 3 = k * 3 by omega, show (k + 1) * 3 + 1 - 3 = k * 3 + 1 by omega, show (k + 1) * 3 + 2 - 3 = k * 3 + 2 by omega]
      exact this

theorem ownsRow_at {w : World} {base : Nat} {e : TypeId} {size : Nat} {v : Value} {n : Nat} {xs : List Value} (h : w.ownsRow base e size v n xs) (hn : 0 < n) : ∃ g cap, v = .slice (some ⟨g, 0, none⟩) n cap ∧ g < w.heap.size ∧ ∀ i u, xs[i]? = some u → w.cell? ⟨g, i, none⟩ = some u := by
  have hcs := fun g hg => h.cells (g := g) hg
  have hlt := h.lt
  rcases h.2 with ⟨_, h0⟩ | ⟨g, cap, cur, rfl, hb, hh, h1, h2, h3⟩
  · omega
  · refine ⟨g, cap, rfl, (hlt g rfl).2, fun i u hu => ?_⟩
    have := hcs g rfl i u hu
    rwa [add0] at this

set_option maxHeartbeats 1000000 in
set_option maxRecDepth 100000 in
theorem rget_any {w0 w : World} {S : Nat → Prop} {r : Nat} {q : Int} {vs vp : Value} {sizes : List Int} {puts : List PutR} (h : RSt w S r q vs vp sizes puts) (id i : Int) (hn : sizes.length ≤ 1048576) :
    Calls Try.prog 16 #[.pointer (some ⟨r, 0, none⟩), .int .i64 id, .int .i64 i] w fun e w' => e = .returned (.tuple #[.int .i64 (if 0 ≤ i ∧ i < rlenv sizes id then lastp puts id i else 0), .bool (decide (0 ≤ i ∧ i < rlenv sizes id))]) ∧ Chg (fun _ => False) w w' := by
  have CL := Lib.hid fun (m : Nat) => rlen_any (RSt.of_heap (w := w) (w' := w.drewN m) rfl h) id hn
  obtain ⟨L, hL⟩ : ∃ L, rlenv sizes id = L := ⟨_, rfl⟩
  rw [hL]
  simp only [hL] at CL
  clear hL
  by_cases h0 : i < 0
  · rw [if_neg (by omega), decide_eq_false (by omega)]
    clear h CL
    go_enter Try.func16, Try.ntmps16
    go_wp2_with fail
    go_ret2
    exact ⟨rfl, Chg.refl _ _⟩
  have h0' : 0 ≤ i := by omega
  by_cases h1 : i < L
  · rw [if_pos ⟨h0', h1⟩, decide_eq_true ⟨h0', h1⟩]
    have c2 := cell_of_block h.blk 2
    simp at c2
    have hrl := lt_of_heap h.blk
    obtain ⟨hpm, A, c, rfl⟩ := ownsRow_slice h.ownP
    unfold maxLen at hpm
    have HO := Lib.hid h.ownP
    have HCC : Hid (∀ wx, Below w.heap.size w wx → wx.cell? ⟨r, 2, none⟩ = some (.slice A puts.length c)) := Lib.hid fun wx hx => (hx.cell (p := ⟨r, 2, none⟩) hrl).trans c2
    obtain ⟨n, hN⟩ : ∃ n, n = puts.length := ⟨_, rfl⟩
    have hcell0 := HCC.out w (Below.refl _ _)
    rw [← hN] at hpm hcell0
    have HN := Lib.hid hN
    clear h hN c2
    go_enter Try.func16, Try.ntmps16
    go_wp2_with fail
    refine (CL.out 0).mono ?_; rintro e w9 ⟨rfl, rfl⟩
    go_wp2_with fail
    go_loopg [8] n (fun k x wr => ∃ j : Nat, j ≤ n ∧ k = j ∧ x = .int .i64 j ∧ Hid (lastp puts id i = lastp (puts.take j) id i) ∧ Hid (Below w.heap.size w wr))
    case atStart => exact ⟨n, Nat.le_refl _, rfl, rfl, Lib.hid (by rw [HN.out, List.take_length]), Lib.hid (Below.refl _ _)⟩
    case round =>
      clear hcell0
      obtain ⟨j, hj, hk, rfl, HLP, HBB⟩ := hrel
      have HK := Lib.hid hk
      clear hk
      by_cases hz : 0 < j
      · obtain ⟨t, rfl⟩ : ∃ t, j = t + 1 := ⟨j - 1, by omega⟩
        have htl : t < puts.length := by rw [← HN.out]; omega
        obtain ⟨g, cap, e, hgl, hc⟩ := ownsRow_at HO.out (by rw [← HN.out]; omega)
        obtain ⟨f1, f2, f3⟩ := flat_get puts t htl
        have d1 := (HBB.out.cell (p := ⟨g, t * 3, none⟩) hgl).trans (hc _ _ f1)
        have d2 := (HBB.out.cell (p := ⟨g, t * 3 + 1, none⟩) hgl).trans (hc _ _ f2)
        have d3 := (HBB.out.cell (p := ⟨g, t * 3 + 2, none⟩) hgl).trans (hc _ _ f3)
        have hcr := HCC.out wr HBB.out
        rw [← HN.out] at hcr
        injection e with e1 e2 e3
        subst e1
        subst e3
        clear e2
        have hlt := lastp_take puts t htl id i
        have HLT := Lib.hid hlt
        clear hlt f1 f2 f3 hc
        have hpi : ∃ a b v, puts[t].id = a ∧ puts[t].i = b ∧ puts[t].v = v := ⟨_, _, _, rfl, rfl, rfl⟩
        obtain ⟨pa, pb, pv, q1, q2, q3⟩ := hpi
        rw [q1] at d1
        rw [q2] at d2
        rw [q3] at d3
        have HQ := Lib.hid (And.intro q1 (And.intro q2 q3))
        clear q1 q2 q3
        have tI : ((t : Int) + 1 - 1) = t := by omega
        have fin : Hid (pa = id → pb = i → lastp puts id i = pv) := Lib.hid fun a b => by
          obtain ⟨q1, q2, q3⟩ := HQ.out
          rw [HLP.out, HLT.out, if_pos (by unfold PutR.is; simp [q1, q2, a, b]), q3]
        have nxt : Hid (¬ (pa = id ∧ pb = i) → lastp puts id i = lastp (puts.take t) id i) := Lib.hid fun a => by
          obtain ⟨q1, q2, q3⟩ := HQ.out
          rw [HLP.out, HLT.out, if_neg (by unfold PutR.is; rw [q1, q2]; intro hx; simp at hx; exact a hx)]
        go_wp2_with fail
        · go_ret2
          refine ⟨?_, Chg.of_below ((HBB.out.alloc HBB.out.size _)) _⟩
          rw [fin.out (by assumption) (by simp_all)]
          rfl
        · go_roundg t
          case measure => have := HK.out; omega
          case rel => exact ⟨t, by omega, rfl, rfl, Lib.hid (nxt.out (by simp_all)), Lib.hid (HBB.out.alloc HBB.out.size _)⟩
        · go_roundg t
          case measure => have := HK.out; omega
          case rel => exact ⟨t, by omega, rfl, rfl, Lib.hid (nxt.out (fun x => by simp_all)), Lib.hid (HBB.out.alloc HBB.out.size _)⟩
      · obtain rfl : j = 0 := by omega
        go_wp2_with fail
        go_ret2
        refine ⟨?_, Chg.of_below HBB.out _⟩
        rw [HLP.out]
        rfl
  · rw [if_neg (by omega), decide_eq_false (by omega)]
    clear h
    go_enter Try.func16, Try.ntmps16
    go_wp2_with fail
    refine (CL.out 0).mono ?_; rintro e w9 ⟨rfl, rfl⟩
    go_wp2_with fail
    go_ret2
    exact ⟨rfl, Chg.refl _ _⟩

/-! ### Set -/
theorem Chg.of_grown {w w' : World} {row : Option Nat} (hg : w.grownBy w' row) : Chg (fun k => row = some k) w w' := ⟨hg.os, hg.tape, hg.output, hg.size, fun k hk hn => hg.block k hk (fun e => hn e.symm)⟩

set_option maxHeartbeats 1000000 in
set_option maxRecDepth 100000 in
theorem rset_in {w : World} {S : Nat → Prop} {r : Nat} {q : Int} {vs vp : Value} {sizes : List Int} {puts : List PutR} (h : RSt w S r q vs vp sizes puts) (id i y : Int) (hn : sizes.length ≤ 1048576) (hp : puts.length ≤ 1048576) (h0 : 0 ≤ i) (h1 : i < rlenv sizes id) :
    Calls Try.prog 14 #[.pointer (some ⟨r, 0, none⟩), .int .i64 id, .int .i64 i, .int .i64 y] w fun e w' => e = .returned (.bool true) ∧ ∃ vp', RSt w' (fun k => S k ∨ w.heap.size ≤ k) r q vs vp' sizes (puts ++ [⟨id, i, y⟩]) ∧ Chg S w w' := by
  have CL := Lib.hid (rlen_any h id hn)
  obtain ⟨L, hL⟩ : ∃ L, rlenv sizes id = L := ⟨_, rfl⟩
  rw [hL] at h1
  simp only [hL] at CL
  clear hL
  have c2 := cell_of_block h.blk 2
  simp at c2
  have f2 := frozen_of_block h.blk 2
  have hrl := lt_of_heap h.blk
  have HH := Lib.hid h
  have hown := h.ownP
  have hvr : vp.ownBlock ≠ some r := fun e => (h.neP r e).2 rfl
  obtain ⟨i0, hi, hz0, hz1, hz2⟩ := info_parts infoPut
  obtain ⟨n, hN⟩ : ∃ n, n = puts.length := ⟨_, rfl⟩
  rw [← hN] at hp hown
  have HN := Lib.hid hN
  have hvs : ∃ A c, vp = .slice A n c := by rw [hN]; exact (ownsRow_slice h.ownP).2
  obtain ⟨A, c, rfl⟩ := hvs
  clear h hN
  have HO := Lib.hid hown
  clear hown
  go_enter Try.func14, Try.ntmps14
  go_wp2_with fail
  refine CL.out.mono ?_; rintro e w9 ⟨rfl, rfl⟩
  go_wp2_with (at_builtin; refine wpList_append_lies _ rfl _ _ _ rfl 0 58 i0 _ 3 24 Try.underlying28 hi hz0 hz1 hz2 rfl (by omega) (.slice A n c) n (puts.flatMap PutR.cells) rfl (HO.out.alloc _) ⟨w9.heap.size, 0, none⟩ 1 1 [.int .i64 id, .int .i64 i, .int .i64 y] rfl rfl (World.news_of_block (cs := #[.int .i64 id, .int .i64 i, .int .i64 y]) (t := 58) (fr := (0, 0)) (heap_new _ _)) (by simp [Value.oneCell']) (by omega) (by unfold maxLen; omega) (by omega) (by omega) (w9.heap.size + 1) (by simp) ?_; intro g cap w1 hown1 hgrow hat hlt; have k2 := (hgrow.cell_far ⟨r, 2, none⟩ (by simp; omega) (fun e => hvr e.symm)).trans (cell_alloc c2 _); have kf2 := ((hgrow.frozen_far ⟨r, 2, none⟩ (by simp; omega) (fun e => hvr e.symm)).trans (frozen_alloc hrl _)).trans f2)
  go_ret
  have h := HH.out
  have hc2 : Chg (fun k => (Value.slice A n c).ownBlock = some k) w9 w1 := ((Chg.refl _ _).alloc _).grownBy hgrow (fun k hk _ => hk)
  have hg2 : g ≠ r := by
    rcases hat with hat | hat
    · exact (h.neP g hat).2
    · omega
  have hc3 : Chg (fun k => (Value.slice A n c).ownBlock = some k ∨ k = r) w9 (w1.setCell ⟨r, 2, none⟩ (.slice (some ⟨g, 0, none⟩) (n + 1) cap)) :=
    (hc2.mono (fun _ _ x => .inl x)).setCell (fun _ => .inr rfl) _
  refine ⟨rfl, .slice (some ⟨g, 0, none⟩) (n + 1) cap, ⟨.inl h.hr, ?_, ?_, ?_, fun k hk => ⟨.inl (h.neS k hk).1, (h.neS k hk).2⟩, ?_, ?_⟩, hc3.mono (fun k _ hk => ?_)⟩
  · exact heap_set (hc2.heap h.blk hvr) 2 _
  · exact ownsRow_kept h.ownS hc3 (fun k hk e => e.elim (h.ne k hk) (h.neS k hk).2)
  · have := ownsRow_kept hown1 (Chg.set_cell ⟨r, 2, none⟩ (.slice (some ⟨g, 0, none⟩) (n + 1) cap)) (fun k hk e => hg2 (by injection hk with hk; exact hk.trans e))
    rw [List.length_append, ← HN.out]
    simpa [PutR.cells] using this
  · intro k hk
    obtain rfl : g = k := by injection hk
    refine ⟨?_, hg2⟩
    rcases hat with hat | hat
    · exact .inl (h.neP g hat).1
    · exact .inr (by omega)
  · intro k hk e
    obtain rfl : g = k := by injection e
    rcases hat with hat | hat
    · exact h.ne g hk hat
    · have := (h.ownS.lt g hk).2; omega
  · rcases hk with hk | hk
    · exact (h.neP k hk).1
    · rw [hk]; exact h.hr

set_option maxHeartbeats 1000000 in
set_option maxRecDepth 100000 in
theorem rset_out {w : World} {S : Nat → Prop} {r : Nat} {q : Int} {vs vp : Value} {sizes : List Int} {puts : List PutR} (h : RSt w S r q vs vp sizes puts) (id i y : Int) (hn : sizes.length ≤ 1048576) (h1 : ¬ (0 ≤ i ∧ i < rlenv sizes id)) :
    Calls Try.prog 14 #[.pointer (some ⟨r, 0, none⟩), .int .i64 id, .int .i64 i, .int .i64 y] w fun e w' => e = .returned (.bool false) ∧ w' = w := by
  have CL := Lib.hid (rlen_any h id hn)
  obtain ⟨L, hL⟩ : ∃ L, rlenv sizes id = L := ⟨_, rfl⟩
  rw [hL] at h1
  simp only [hL] at CL
  clear hL h
  by_cases h0 : i < 0
  · go_enter Try.func14, Try.ntmps14
    go_wp2_with fail
    go_ret
    exact ⟨rfl, rfl⟩
  · have h2 : L ≤ i := by omega
    have h3 : 0 ≤ i := by omega
    clear h1
    go_enter Try.func14, Try.ntmps14
    go_wp2_with fail
    refine CL.out.mono ?_; rintro e w9 ⟨rfl, rfl⟩
    go_wp2_with fail
    go_ret
    exact ⟨rfl, rfl⟩

/-! ### Make -/
def rmakev (q : Int) (sizes : List Int) (n : Int) : Int × Int × List Int :=
  if n < 1 ∨ 4096 < n then (0, 1, sizes) else if clampq q < sumL sizes + n then (0, 9, sizes) else (sizes.length, 0, sizes ++ [n])

def SizesOk (sizes : List Int) : Prop := (∀ j, j ≤ sizes.length → 0 ≤ sumL (sizes.take j) ∧ sumL (sizes.take j) ≤ 1048576) ∧ sizes.length ≤ 1048576

set_option maxHeartbeats 2000000 in
set_option maxRecDepth 100000 in
theorem rmake_arg (r : Nat) (n : Int) (w : World) (hn : n < 1 ∨ 4096 < n) :
    Calls Try.prog 12 #[.pointer (some ⟨r, 0, none⟩), .int .i64 n] w fun e w' => e = .returned (.tuple #[.int .i64 0, .int .i64 1]) ∧ w' = w := by
  rcases hn with hn | hn
  · go_enter Try.func12, Try.ntmps12
    go_wp2_with fail
    go_ret2
    exact ⟨rfl, rfl⟩
  · have h1 : 1 ≤ n := by omega
    go_enter Try.func12, Try.ntmps12
    go_wp2_with fail
    go_ret2
    exact ⟨rfl, rfl⟩

set_option maxHeartbeats 2000000 in
set_option maxRecDepth 100000 in
theorem rmake_quota {w : World} {S : Nat → Prop} {r : Nat} {q : Int} {vs vp : Value} {sizes : List Int} {puts : List PutR} (h : RSt w S r q vs vp sizes puts) (n : Int) (hs : SizesOk sizes) (h1 : 1 ≤ n) (h2 : n ≤ 4096) (h3 : clampq q < sumL sizes + n) :
    Calls Try.prog 12 #[.pointer (some ⟨r, 0, none⟩), .int .i64 n] w fun e w' => e = .returned (.tuple #[.int .i64 0, .int .i64 9]) ∧ Chg (fun _ => False) w w' := by
  have CU := Lib.hid fun (m : Nat) => rused_any (RSt.of_heap (w := w) (w' := w.drewN m) rfl h) hs.1 hs.2
  have hb := hs.1 sizes.length (Nat.le_refl _)
  rw [List.take_length] at hb
  obtain ⟨hb0, hb1⟩ := hb
  obtain ⟨T, hT⟩ : ∃ T, sumL sizes = T := ⟨_, rfl⟩
  rw [hT] at h3 hb0 hb1
  simp only [hT] at CU
  have c0 := cell_of_block h.blk 0
  simp at c0
  clear hT h hs
  have hcq : (q < 0 ∧ clampq q = 0) ∨ (1048576 < q ∧ clampq q = 1048576) ∨ (0 ≤ q ∧ q ≤ 1048576 ∧ clampq q = q) := by unfold clampq; split <;> (try split) <;> omega
  rcases hcq with ⟨hq, e⟩ | ⟨hq, e⟩ | ⟨hq, hq2, e⟩
  all_goals
    rw [e] at h3
    clear e
    go_enter Try.func12, Try.ntmps12
    go_wp2_with fail
    go_quiet ((go_at_call 18; exact Calls.quiet_of_same (CU.out _)))
    go_wp2_with fail
    go_ret2
    exact ⟨rfl, (Chg.refl _ _).drewN nq⟩

set_option maxHeartbeats 2000000 in
set_option maxRecDepth 100000 in
theorem rmake_ok {w : World} {S : Nat → Prop} {r : Nat} {q : Int} {vs vp : Value} {sizes : List Int} {puts : List PutR} (h : RSt w S r q vs vp sizes puts) (n : Int) (hs : SizesOk sizes) (h1 : 1 ≤ n) (h2 : n ≤ 4096) (h3 : ¬ clampq q < sumL sizes + n) :
    Calls Try.prog 12 #[.pointer (some ⟨r, 0, none⟩), .int .i64 n] w fun e w' => e = .returned (.tuple #[.int .i64 sizes.length, .int .i64 0]) ∧ ∃ vs', RSt w' (fun k => S k ∨ w.heap.size ≤ k) r q vs' vp (sizes ++ [n]) puts ∧ Chg S w w' := by
  have CU := Lib.hid fun (m : Nat) => rused_any (RSt.of_heap (w := w) (w' := w.drewN m) rfl h) hs.1 hs.2
  have hb := hs.1 sizes.length (Nat.le_refl _)
  rw [List.take_length] at hb
  obtain ⟨hb0, hb1⟩ := hb
  obtain ⟨T, hT⟩ : ∃ T, sumL sizes = T := ⟨_, rfl⟩
  rw [hT] at h3 hb0 hb1
  simp only [hT] at CU
  have c0 := cell_of_block h.blk 0
  simp at c0
  have c1 := cell_of_block h.blk 1
  simp at c1
  have f1 := frozen_of_block h.blk 1
  have hrl := lt_of_heap h.blk
  have HH := Lib.hid h
  have hown := h.ownS
  have hvr : vs.ownBlock ≠ some r := fun e => (h.neS r e).2 rfl
  have hsl := hs.2
  obtain ⟨i0, hi, hz0, hz1, hz2⟩ := info_parts info2
  obtain ⟨m, hN⟩ : ∃ m, m = sizes.length := ⟨_, rfl⟩
  rw [← hN] at hsl hown
  rw [← hN]
  have hvs : ∃ A c, vs = .slice A m c := by rw [hN]; exact (ownsRow_slice h.ownS).2
  obtain ⟨A, c, rfl⟩ := hvs
  have HN := Lib.hid hN
  have HO := Lib.hid hown
  clear hT h hs hown hN
  have hcq : (q < 0 ∧ clampq q = 0) ∨ (1048576 < q ∧ clampq q = 1048576) ∨ (0 ≤ q ∧ q ≤ 1048576 ∧ clampq q = q) := by unfold clampq; split <;> (try split) <;> omega
  rcases hcq with ⟨hq, e⟩ | ⟨hq, e⟩ | ⟨hq, hq2, e⟩
  · rw [e] at h3; omega
  all_goals
    rw [e] at h3
    clear e
    go_enter Try.func12, Try.ntmps12
    go_wp2_with fail
    go_quiet ((go_at_call 18; exact Calls.quiet_of_same (CU.out _)))
    obtain ⟨wq, hwq⟩ : ∃ wq, wq = w.drewN nq := ⟨_, rfl⟩
    have c1q : wq.cell? ⟨r, 1, none⟩ = some (.slice A m c) := by rw [hwq]; exact c1
    have f1q : wq.frozen? ⟨r, 1, none⟩ = false := by rw [hwq]; exact f1
    have hrlq : r < wq.heap.size := by rw [hwq]; exact hrl
    have HOq : Hid (wq.ownsRow 0 2 1 (.slice A m c) m (sizes.map (Value.int .i64))) := by rw [hwq]; exact HO.out
    rw [← hwq]
    have HWQ := Lib.hid hwq
    clear hwq c0 c1 f1
    go_wp2_with (at_builtin; refine wpList_append_lies _ rfl _ _ _ rfl 0 2 i0 _ 1 8 Try.underlying27 hi hz0 hz1 hz2 rfl (by omega) (.slice A m c) m (sizes.map (Value.int .i64)) rfl (HOq.out.alloc _) ⟨wq.heap.size, 0, none⟩ 1 1 [.int .i64 n] rfl rfl (World.news_of_block (cs := #[.int .i64 n]) (t := 2) (fr := (0, 0)) (heap_new _ _)) (by simp [Value.oneCell']) (by omega) (by unfold maxLen; omega) (by omega) (by omega) (wq.heap.size + 1) (by simp) ?_; intro g cap w1 hown1 hgrow hat hlt; have k2 := (hgrow.cell_far ⟨r, 1, none⟩ (by simp; omega) (fun e => hvr e.symm)).trans (cell_alloc c1q _); have kf2 := ((hgrow.frozen_far ⟨r, 1, none⟩ (by simp; omega) (fun e => hvr e.symm)).trans (frozen_alloc hrlq _)).trans f1q; have k2e := cell_set_eq k2 (.slice (some ⟨g, 0, none⟩) (m + 1) cap))
    go_ret2
    have h0 := HH.out
    have h : RSt wq S r q (.slice A m c) vp sizes puts := by rw [HWQ.out]; exact RSt.of_heap (w := w) (w' := w.drewN nq) rfl h0
    have hsz : wq.heap.size = w.heap.size := by rw [HWQ.out]; rfl
    have hcq : Chg (fun _ => False) w wq := by rw [HWQ.out]; exact (Chg.refl _ _).drewN nq
    have hc2 : Chg (fun k => (Value.slice A m c).ownBlock = some k) wq w1 := ((Chg.refl _ _).alloc _).grownBy hgrow (fun k hk _ => hk)
    have hg2 : g ≠ r := by
      rcases hat with hat | hat
      · exact (h.neS g hat).2
      · omega
    have hc3 : Chg (fun k => (Value.slice A m c).ownBlock = some k ∨ k = r) wq (w1.setCell ⟨r, 1, none⟩ (.slice (some ⟨g, 0, none⟩) (m + 1) cap)) :=
      (hc2.mono (fun _ _ x => .inl x)).setCell (fun _ => .inr rfl) _
    refine ⟨rfl, .slice (some ⟨g, 0, none⟩) (m + 1) cap, ⟨.inl h.hr, ?_, ?_, ?_, ?_, fun k hk => ⟨.inl (h.neP k hk).1, (h.neP k hk).2⟩, ?_⟩, hcq.trans hc3 (fun _ _ x => x.elim) (fun k _ hk => ?_)⟩
    · exact heap_set (hc2.heap h.blk hvr) 1 _
    · have := ownsRow_kept hown1 (Chg.set_cell ⟨r, 1, none⟩ (.slice (some ⟨g, 0, none⟩) (m + 1) cap)) (fun k hk e => hg2 (by injection hk with hk; exact hk.trans e))
      rw [List.length_append, ← HN.out]
      simpa using this
    · exact ownsRow_kept h.ownP hc3 (fun k hk e => e.elim (fun e => h.ne k e hk) (h.neP k hk).2)
    · intro k hk
      obtain rfl : g = k := by injection hk
      refine ⟨?_, hg2⟩
      rcases hat with hat | hat
      · exact .inl (h.neS g hat).1
      · exact .inr (by omega)
    · intro k hk e
      obtain rfl : g = k := by injection hk
      rcases hat with hat | hat
      · exact h.ne g hat e
      · have := (h.ownP.lt g e).2; omega
    · rcases hk with hk | hk
      · exact (h.neS k hk).1
      · rw [hk]; exact h.hr
end Go.Proofs.Ytjoibhaohmifcaa
