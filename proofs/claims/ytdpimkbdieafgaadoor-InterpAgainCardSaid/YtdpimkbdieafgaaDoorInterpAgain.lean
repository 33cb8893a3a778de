/- InterpAgain: the walk. -/
import Derived.Test.YtdpimkbdieafgaaDoorInterpMore
import Derived.Test.YtdpimkbdieafgaaDoorLaidT
import Derived.HandedShaped
namespace Go.Proofs.YtdpimkbdieafgaaDoor
set_option linter.unusedVariables false
set_option linter.unusedSimpArgs false
open Go.RowKit

theorem RunO.det {fs : List FnR} {i0 i1 : List Int} {f q : Int} {a b : OutR} (ha : RunO fs i0 i1 f q a) (hb : RunO fs i0 i1 f q b) : a = b := by
  by_cases hc : CodeOk fs
  · obtain ⟨k, g, hk, e⟩ := ha.ok hc
    rw [hb.is hc hk]
    exact e
  · rcases ha with ⟨_, e1⟩ | ⟨h, _⟩
    · rcases hb with ⟨_, e2⟩ | ⟨h, _⟩
      · rw [e1, e2]
      · exact absurd h hc
    · exact absurd h hc
/-- the texts of functions, one behind the other -/
def txts : List FnR → ByteArray
  | [] => ⟨#[]⟩
  | f :: fs => ⟨(textL f.l f.l.length).toArray⟩ ++ txts fs
theorem bytes_assoc (a b c : ByteArray) : a ++ b ++ c = a ++ (b ++ c) := by
  apply ByteArray.ext
  simp [ByteArray.data_append]
theorem bytes_nil (a : ByteArray) : a ++ ⟨#[]⟩ = a := by
  apply ByteArray.ext
  simp [ByteArray.data_append]
theorem txts_snoc (fs : List FnR) (f : FnR) : txts (fs ++ [f]) = txts fs ++ ⟨(textL f.l f.l.length).toArray⟩ := by
  induction fs with
  | nil =>
    show (⟨(textL f.l f.l.length).toArray⟩ : ByteArray) ++ (⟨#[]⟩ : ByteArray) = (⟨#[]⟩ : ByteArray) ++ (⟨(textL f.l f.l.length).toArray⟩ : ByteArray)
    apply ByteArray.ext
    simp [ByteArray.data_append]
  | cons g gs ih =>
    show (⟨(textL g.l g.l.length).toArray⟩ : ByteArray) ++ txts (gs ++ [f]) = (⟨(textL g.l g.l.length).toArray⟩ : ByteArray) ++ txts gs ++ _
    rw [ih, bytes_assoc]
theorem bytes_size (a b : ByteArray) : (a ++ b).size = a.size + b.size := by
  exact ByteArray.size_append
theorem txts_size (fs : List FnR) (h : ∀ f ∈ fs, f.l.length ≤ 1048576 ∧ ∀ x ∈ f.l, Full x) : (txts fs).size ≤ fs.length * (1048576 * 2001) := by
  induction fs with
  | nil => exact Nat.zero_le _
  | cons g gs ih =>
    show ((⟨(textL g.l g.l.length).toArray⟩ : ByteArray) ++ txts gs).size ≤ _
    rw [bytes_size]
    have h1 : (textL g.l g.l.length).length ≤ g.l.length * 2001 := textL_len (h g (by simp)).2 _ (h g (by simp)).1
    have h2 : (⟨(textL g.l g.l.length).toArray⟩ : ByteArray).size = (textL g.l g.l.length).length := rfl
    have h3 := ih (fun f hf => h f (by simp [hf]))
    have h4 := (h g (by simp)).1
    rw [List.length_cons, Nat.add_mul]
    omega
theorem txts_take {fs : List FnR} {j : Nat} (hj : j < fs.length) : txts (fs.take (j + 1)) = txts (fs.take j) ++ ⟨(textL fs[j].l fs[j].l.length).toArray⟩ := by
  rw [List.take_succ_eq_append_getElem hj, txts_snoc]
/-- cells that may be written -/
def OwnW (w : World) (A : Option Addr) (n : Nat) : Prop := ∀ i, i < n → ∃ b off u, A = some ⟨b, off, none⟩ ∧ w.cell? ⟨b, off + i, none⟩ = some (.int .i64 u) ∧ w.frozen? ⟨b, off + i, none⟩ = false
theorem OwnW.set {w : World} {A : Option Addr} {n : Nat} (h : OwnW w A n) (p : Addr) (x : Int) : OwnW (w.setCell p (.int .i64 x)) A n := fun i hi => by
  obtain ⟨b, off, u, e, h1, h2⟩ := h i hi
  obtain ⟨m, hm⟩ := Go.someInt_setCell (w := w) (a := ⟨b, off + i, none⟩) ⟨u, h1⟩ p x
  exact ⟨b, off, m, e, hm, by rw [World.frozen?_setCell]; exact h2⟩
theorem OwnW.keep {w w' : World} {A : Option Addr} {n : Nat} (h : OwnW w A n) (hb : Below w.heap.size w w') : OwnW w' A n := fun i hi => by
  obtain ⟨b, off, u, e, h1, h2⟩ := h i hi
  have hl := World.block_lt_of_cell? w _ h1
  exact ⟨b, off, u, e, (Below.chg hb).cell h1 (fun x => x), by rw [(Below.chg hb).frozen (p := ⟨b, off + i, none⟩) hl (fun x => x)]; exact h2⟩
structure WrI (wb wr : World) (lo hi : Nat) (AP AK : Option Addr) (lp lk : Nat) : Prop where
  chg : Chg (fun k => lo ≤ k ∧ k < hi) wb wr
  op : OwnW wr AP lp
  ok : OwnW wr AK lk
theorem WrI.set {wb wr : World} {lo hi : Nat} {AP AK : Option Addr} {lp lk : Nat} (h : WrI wb wr lo hi AP AK lp lk) {b o : Nat} (hb : lo ≤ b ∧ b < hi) (x : Int) : WrI wb (wr.setCell ⟨b, o, none⟩ (.int .i64 x)) lo hi AP AK lp lk :=
  ⟨h.chg.then ((Chg.set_cell (w := wr) ⟨b, o, none⟩ (.int .i64 x)).mono (fun k _ e => by have e : k = b := e; rw [e]; exact hb)), h.op.set _ _, h.ok.set _ _⟩
theorem OwnW.of {w : World} {A : Option Addr} {c : Nat} {l : List Int} (h : NumSrc w (.slice A l.length c) l) (hf : ∀ k, (Value.slice A l.length c).ownBlock = some k → ∀ o, w.frozen? ⟨k, o, none⟩ = false) : OwnW w A l.length := fun i hi => by
  obtain ⟨b, off, rfl, hc⟩ := h.get.2.2.2 i hi
  exact ⟨b, off, _, rfl, hc, hf b rfl _⟩
theorem NumSrc.src {w : World} {A : Option Addr} {n c : Nat} {l : List Int} (h : NumSrc w (.slice A n c) l) : Src w (.slice A n c) n (nums l) := by
  obtain ⟨h1, h2, h3, h4⟩ := h.get
  have h3 : n ≤ maxLen := Nat.le_trans h2 h3
  by_cases h0 : 0 < l.length
  · obtain ⟨b, off, rfl, hc⟩ := h4 0 h0
    refine .inr ⟨b, off, c, rfl, World.block_lt_of_cell? w _ hc, h2, h3, fun j u hu => ?_⟩
    unfold nums at hu
    rw [List.getElem?_map] at hu
    obtain ⟨x, hx, rfl⟩ := Option.map_eq_some_iff.1 hu
    obtain ⟨hj, rfl⟩ := List.getElem?_eq_some_iff.1 hx
    obtain ⟨b2, off2, e, hc2⟩ := h4 j hj
    injection e with e
    injection e with e1 e2
    subst e1 e2
    exact hc2
  · obtain rfl : l = [] := List.eq_nil_of_length_eq_zero (by omega)
    obtain rfl : n = 0 := h1
    exact .inl ⟨⟨A, c, rfl⟩, rfl, rfl⟩
theorem infoNum : (Tryd.prog.info? 2).map (fun i => (i.zero, i.size, i.bytes)) = some (some (.int .i64 0), 1, 8) := by kernel_rfl
theorem nums_all (l : List Int) : ∀ u ∈ nums l, u.oneCell' = true := fun u hu => by
  obtain ⟨x, _, rfl⟩ := List.mem_map.1 hu
  rfl

set_option maxHeartbeats 8000000 in
set_option maxRecDepth 100000 in
theorem interpAgain_walk (W : World) (fs : List FnR) (cs : List Value) (x : List Int × List Int) (cs2 : List Value) (fuel0 quota : Int) (hL : TxtIs W) (hf : rdCode.K W fs cs) (hx : rdInputs.K W x cs2) (wf : (Lit.int .i64 fuel0).wf = true) (wq : (Lit.int .i64 quota).wf = true) :
    Calls Tryd.prog 9 #[.agg cs.toArray, .agg cs2.toArray, .int .i64 fuel0, .int .i64 quota] W fun e w' => e = .returned (.bool true) ∧ Below W.heap.size W w' := by
  have hf : CodeAt W fs cs := hf
  have hx : InputsAt W x cs2 := hx
  obtain ⟨A, c, rfl, hfs, hfull⟩ := hf
  obtain ⟨V0, V1, rfl, h0, h1, _, _, hz0, hz1⟩ := hx
  obtain ⟨i0, i1⟩ := x
  simp only at h0 h1 hz0 hz1
  simp only [List.toArray]
  obtain ⟨A0, d0, e0⟩ := h0.shape
  obtain ⟨A1, d1, e1⟩ := h1.shape
  obtain ⟨n0, hn0⟩ : ∃ n0, n0 = i0.length := ⟨_, rfl⟩
  obtain ⟨n1, hn1⟩ : ∃ n1, n1 = i1.length := ⟨_, rfl⟩
  obtain ⟨k, hk⟩ : ∃ k, k = fs.length := ⟨_, rfl⟩
  rw [← hn0] at e0 hz0
  rw [← hn1] at e1 hz1
  rw [← hk] at hfs ⊢
  subst e0 e1
  obtain ⟨F, hF⟩ : ∃ F, min fuel0 3000 = F := ⟨_, rfl⟩
  have hFb : F ≤ 3000 := by omega
  obtain ⟨wa, hwa⟩ : ∃ z, z = W.alloc (.cells #[.slice A k c] 24) := ⟨_, rfl⟩
  obtain ⟨Q1, hQ1⟩ : ∃ z, z = W.heap.size := ⟨_, rfl⟩
  obtain ⟨w0, hw0⟩ : ∃ z, z = wa.alloc (.cells #[.slice A0 n0 d0, .slice A1 n1 d1] 27) := ⟨_, rfl⟩
  obtain ⟨Q2, hQ2⟩ : ∃ z, z = wa.heap.size := ⟨_, rfl⟩
  have e2 : Q2 = Q1 + 1 := by rw [hQ2, hwa, hQ1]; show (W.heap.push _).size = _; exact Array.size_push _
  have ca : Chg (fun _ => False) W wa := by rw [hwa]; exact (Chg.refl _ _).alloc _
  have c0 : Chg (fun _ => False) wa w0 := by rw [hw0]; exact (Chg.refl _ _).alloc _
  have x1 : w0.heap[Q1]? = some (.cells #[.slice A k c] 24 (0, 0)) := c0.heap (by rw [hwa]; exact heap_new' hQ1.symm) (fun x => x)
  have x2 : w0.heap[Q2]? = some (.cells #[.slice A0 n0 d0, .slice A1 n1 d1] 27 (0, 0)) := by rw [hw0]; exact heap_new' hQ2.symm
  have b0 : Below W.heap.size W w0 := (ca.then c0).below (fun k h => h.elim) (Nat.le_refl _)
  have CS := Lib.hid (shown_any (hL.keep b0).1)
  have HB0 := Lib.hid b0
  have HX := Lib.hid (And.intro x1 x2)
  have HWE := Lib.hid (And.intro hQ1 (And.intro hwa (And.intro e2 hw0)))
  have HLL := Lib.hid hL
  have HFS := Lib.hid hfs
  have HIN := Lib.hid (And.intro h0 h1)
  have HK := Lib.hid hk
  have HFB := Lib.hid hFb
  have HNN := Lib.hid (And.intro hn0 hn1)
  have HFU : Hid (∀ f ∈ fewv fs, f.l.length ≤ 1048576 ∧ ∀ x ∈ f.l, Full x) := Lib.hid (fun f hf => ⟨(fewv_bound fs).2 f hf, fun x hx => by
    unfold fewv at hf
    obtain ⟨g, hg, rfl⟩ := List.mem_map.1 hf
    exact hfull g (List.mem_of_mem_take hg) x (List.mem_of_mem_take hx)⟩)
  clear hQ1 hQ2 hwa e2 hw0 ca c0 x1 x2 b0 hL hfs hfull h0 h1 hk hn0 hn1 wf wq hFb
  obtain ⟨iN, hi, hiz0, hiz1, hiz2⟩ := info_parts infoNum
  go_enter Tryd.func9, Tryd.ntmps9
  go_upto_region 1 with fail
  rw [← HWE.out.1, ← HWE.out.2.1, ← HWE.out.2.2.1, ← HWE.out.2.2.2]
  go_wp2_with fail
  refine CS.out.mono ?_; rintro e w1 ⟨rfl, hb1⟩
  have hb01 := bel_trans HB0.out hb1
  have y1 := (Below.chg hb1).heap HX.out.1 (fun x => x)
  have k1 := cell_of_block y1 0
  simp at k1
  have CF := Lib.hid (few_any (HFS.out.keep hb01) HK.out)
  have HB1 := Lib.hid (And.intro hb01 (And.intro hb1 y1))
  clear hb01 CS hb1 y1
  go_wp2_with fail
  refine CF.out.mono ?_; rintro e w2 ⟨V, rfl, hV, hb2⟩
  obtain ⟨_, AV, cV, rfl⟩ := hV.bound
  have z1 := (Below.chg hb2).heap HB1.out.2.2 (fun x => x)
  have z2 := (Below.chg (bel_trans HB1.out.2.1 hb2)).heap HX.out.2 (fun x => x)
  have t1 := cell_of_block z1 0
  have f1 := frozen_of_block z1 0
  simp at t1
  obtain ⟨w3, hw3⟩ : ∃ z, z = w2.setCell ⟨Q1, 0, none⟩ (.slice AV (fewv fs).length cV) := ⟨_, rfl⟩
  have hset : Chg (fun k => k = Q1) w2 w3 := by rw [hw3]; exact Chg.set_cell (w := w2) ⟨Q1, 0, none⟩ _
  have hQ12 : Q1 ≠ Q2 := by have := HWE.out.2.2.1; omega
  have hQ1W : W.heap.size ≤ Q1 := by rw [HWE.out.1]; exact Nat.le_refl _
  have hb3 : Below W.heap.size W w3 := (bel_trans HB1.out.1 hb2).trans (hset.below (B := W.heap.size) (fun k e => by have e : k = Q1 := e; rw [e]; exact hQ1W) (bel_trans HB1.out.1 hb2).size)
  have x1 := heap_set z1 0 (.slice AV (fewv fs).length cV)
  rw [← hw3] at x1
  have x2 := hset.heap z2 (fun e => hQ12 e.symm)
  have hV3 := hV.boxed z1 hset
  have HW3 := Lib.hid hw3
  have H3 := Lib.hid (And.intro hb3 (And.intro x1 (And.intro x2 hV3)))
  have HFV : Hid (fewv fs = fewv fs) := Lib.hid rfl
  obtain ⟨gs, hgs⟩ : ∃ gs, gs = fewv fs := ⟨_, rfl⟩
  rw [← hgs] at H3 HW3 HFU ⊢
  clear HFV CF hV hb2 z1 z2 hw3 hset hQ12 hQ1W hb3 x1 x2 hV3
  obtain ⟨n, hn⟩ : ∃ n, n = gs.length := ⟨_, rfl⟩
  rw [← hn] at H3 HW3 ⊢
  have HN := Lib.hid hn
  have HGS := Lib.hid hgs
  have hn6 : n ≤ 6 := by rw [hn, hgs]; unfold fewv; rw [List.length_map, List.length_take]; omega
  clear hn hgs
  go_upto_region 5 with fail
  rw [← HW3.out]
  clear t1 f1 k1 hF
  -- the texts as they were
  have LT : Hid (∀ (wr : World) (j : Nat), Below w3.heap.size w3 wr → j < n → ∃ b off cap B d, (Value.slice AV n cV = .slice (some ⟨b, off, none⟩) n cap) ∧ wr.cell? ⟨b, off + j * 5 + 4, none⟩ = some (.slice B (gs.getD j noFn).l.length d) ∧ Calls Tryd.prog 19 #[.slice B (gs.getD j noFn).l.length d] wr fun e w' => e = .returned (.string ⟨(textL (gs.getD j noFn).l (gs.getD j noFn).l.length).toArray⟩) ∧ Below wr.heap.size wr w') := Lib.hid (fun wr j hb hj => by
    have hjl : j < gs.length := by rw [← HN.out]; exact hj
    obtain ⟨b, off, cap, B, d, e, _, _, ⟨_, _, _, _, c4⟩, hs⟩ := (H3.out.2.2.2.keep hb).get j hjl
    have hg : gs.getD j noFn = gs[j] := by rw [List.getD_eq_getElem?_getD, List.getElem?_eq_getElem hjl]; rfl
    rw [hg]
    rw [← HN.out] at e
    have hm := HFU.out gs[j] (List.getElem_mem _)
    exact ⟨b, off, cap, B, d, e, c4, text_any (HLL.out.keep (bel_trans H3.out.1 hb)) hs hm.1 hm.2⟩)
  have HT0 : Hid (txts (gs.take 0) = ⟨#[]⟩ ∧ Below w3.heap.size w3 w3) := Lib.hid ⟨rfl, Below.refl _ _⟩
  have x1c : Hid (∀ wr, Below w3.heap.size w3 wr → wr.cell? ⟨Q1, 0, none⟩ = some (.slice AV n cV)) := Lib.hid (fun wr hb => by
    have h := cell_of_block ((Below.chg hb).heap H3.out.2.1 (fun x => x)) 0
    simp at h
    exact h)
  have k1 := x1c.out w3 (Below.refl _ _)
  have hn63 : n ≤ 9223372036854775807 := by omega
  go_wp2_with fail
  go_loopg [10, 11] n (fun gk s i wr => ∃ (j : Nat) (S : ByteArray), j ≤ n ∧ gk = n - j ∧ s = .string S ∧ i = .int .i64 j ∧ Hid (S = txts (gs.take j) ∧ Below w3.heap.size w3 wr))
  case atStart => exact ⟨0, ⟨#[]⟩, by omega, rfl, rfl, rfl, Lib.hid ⟨rfl, Below.refl _ _⟩⟩
  case round =>
    clear k1 HT0
    obtain ⟨j, S, hj, hk, rfl, rfl, HB⟩ := hrel
    have HKK := Lib.hid hk
    clear hk
    have k1 := x1c.out wr HB.out.2
    by_cases hlt : j < n
    · obtain ⟨b, off, cap, B, d, e, c4, CT⟩ := LT.out wr j HB.out.2 hlt
      have htk : Hid (txts (gs.take (j + 1)) = txts (gs.take j) ++ ⟨(textL (gs.getD j noFn).l (gs.getD j noFn).l.length).toArray⟩) := Lib.hid (by
        have hjl : j < gs.length := by rw [← HN.out]; exact hlt
        have hg : gs.getD j noFn = gs[j] := by rw [List.getD_eq_getElem?_getD, List.getElem?_eq_getElem hjl]; rfl
        rw [txts_take hjl, hg])
      have hsz : (txts (gs.take j)).size + (⟨(textL (gs.getD j noFn).l (gs.getD j noFn).l.length).toArray⟩ : ByteArray).size ≤ 100000000000 := by
        have h1 := txts_size (gs.take (j + 1)) (fun f hf => HFU.out f (List.mem_of_mem_take hf))
        rw [htk.out, bytes_size] at h1
        have h2 : (gs.take (j + 1)).length ≤ 6 := by rw [List.length_take]; have := HN.out; omega
        omega
      rw [← HB.out.1] at hsz
      generalize (gs.getD j noFn).l = L at *
      injection e with e1 _ e3
      subst e1 e3
      have CT := Lib.hid CT
      obtain ⟨T, hT⟩ : ∃ T : ByteArray, T = ⟨(textL L L.length).toArray⟩ := ⟨_, rfl⟩
      rw [← hT] at CT htk hsz
      clear hT
      generalize L.length = ll at *
      go_wp2_with fail
      refine CT.out.mono ?_; rintro e w4 ⟨rfl, hb4⟩
      have HB4 := Lib.hid (And.intro (HB.out.1) (bel_trans HB.out.2 hb4))
      clear hb4 CT k1 c4
      go_wp2_with fail
      go_roundg (n - (j + 1))
      case measure => have := HKK.out; omega
      case rel => exact ⟨j + 1, _, by omega, rfl, rfl, by go_num, Lib.hid ⟨by rw [htk.out, HB4.out.1], HB4.out.2⟩⟩
    · obtain rfl : j = n := by omega
      have HS : Hid (S = txts gs) := Lib.hid (by rw [HB.out.1, List.take_of_length_le (by have := HN.out; omega)])
      have x2c : Hid (∀ wx, Below w3.heap.size w3 wx → wx.cell? ⟨Q2, 0, none⟩ = some (.slice A0 n0 d0) ∧ wx.cell? ⟨Q2, 1, none⟩ = some (.slice A1 n1 d1)) := Lib.hid (fun wx hb => by
        have h := (Below.chg hb).heap H3.out.2.2.1 (fun x => x)
        have h1 := cell_of_block h 0
        have h2 := cell_of_block h 1
        simp at h1 h2
        exact ⟨h1, h2⟩)
      have HI3 : Hid (∀ wx, Below w3.heap.size w3 wx → NumSrc wx (.slice A0 n0 d0) i0 ∧ NumSrc wx (.slice A1 n1 d1) i1) := Lib.hid (fun wx hb => ⟨HIN.out.1.keep (bel_trans H3.out.1 hb), HIN.out.2.keep (bel_trans H3.out.1 hb)⟩)
      obtain ⟨wd, hwd⟩ : ∃ z, z = wr.alloc (.cells #[] 2) := ⟨_, rfl⟩
      obtain ⟨D, hD⟩ : ∃ z, z = wr.heap.size := ⟨_, rfl⟩
      have bd : Below wr.heap.size wr wd := by rw [hwd]; exact (Below.refl _ _).alloc (Nat.le_refl _) _
      have HD : Hid (wd.ownsRow 0 2 1 (.slice (some ⟨D, 0, none⟩) 0 0) 0 (nums [])) := Lib.hid ⟨rfl, .inr ⟨D, 0, #[], rfl, Nat.zero_le _, by rw [hwd]; exact heap_new' hD.symm, Nat.le_refl _, by simp [maxLen], rfl, rfl⟩⟩
      have HWD := Lib.hid (And.intro hD hwd)
      have HBD := Lib.hid (bel_trans HB.out.2 bd)
      have HSD := Lib.hid ((HI3.out wd HBD.out).1.src)
      obtain ⟨q0, q1⟩ := x2c.out wd HBD.out
      rw [HWD.out.2] at q0 q1
      have hDr : wr.heap.size ≤ D := by omega
      have hDl : D < wd.heap.size := by rw [hwd, hD]; show _ < (wr.heap.push _).size; rw [Array.size_push]; omega
      have HDL := Lib.hid (And.intro hDr hDl)
      have hwr3 := HB.out.2.size
      clear hwd hD bd hDr hDl
      go_upto_region 10 with (at_builtin; rw [← HWD.out.2, ← HWD.out.1]; refine wpList_app rfl _ _ 25 rfl 0 2 iN _ 1 8 Tryd.underlying25 hi hiz0 hiz1 hiz2 rfl (by omega) (.slice (some ⟨D, 0, none⟩) 0 0) 0 _ rfl HD.out (.slice A0 n0 d0) n0 (nums i0) rfl HSD.out (by have := HNN.out.1; unfold nums; rw [List.length_map]; omega) (nums_all _) (by simp [maxLen]; omega) (by omega) (by omega) ?_; intro vp w9 hop hgp hatp; obtain ⟨_, PA, Pc, rfl⟩ := ownsRow_slice hop; have HP9 := Lib.hid (And.intro hop (And.intro (Chg.of_grown hgp) hatp)); clear hop hgp hatp)
      have HP : Hid (NumSrc w9 (.slice PA (0 + n0) Pc) i0 ∧ Below w3.heap.size w3 w9 ∧ (∀ k, (Value.slice PA (0 + n0) Pc).ownBlock = some k → k < w9.heap.size)) := Lib.hid (by
        have h1 := HP9.out.1
        rw [show nums [] ++ nums i0 = nums i0 from rfl, HNN.out.1, Nat.zero_add] at h1
        refine ⟨by rw [HNN.out.1, Nat.zero_add]; exact NumSrc.of_row h1, HBD.out.trans (HP9.out.2.1.below (B := w3.heap.size) (fun k hk => ?_) HBD.out.size), fun k hk => ownsRow_lt HP9.out.1 k hk⟩
        injection hk with hk
        subst hk
        exact Nat.le_trans hwr3 HDL.out.1)
      clear q0 q1 k1
      obtain ⟨we, hwe⟩ : ∃ z, z = w9.alloc (.cells #[] 2) := ⟨_, rfl⟩
      obtain ⟨E, hE⟩ : ∃ z, z = w9.heap.size := ⟨_, rfl⟩
      have be : Below w9.heap.size w9 we := by rw [hwe]; exact (Below.refl _ _).alloc (Nat.le_refl _) _
      have HE : Hid (we.ownsRow 0 2 1 (.slice (some ⟨E, 0, none⟩) 0 0) 0 (nums [])) := Lib.hid ⟨rfl, .inr ⟨E, 0, #[], rfl, Nat.zero_le _, by rw [hwe]; exact heap_new' hE.symm, Nat.le_refl _, by simp [maxLen], rfl, rfl⟩⟩
      have HWE2 := Lib.hid (And.intro hE hwe)
      have HBE := Lib.hid (bel_trans HP.out.2.1 be)
      have HSE := Lib.hid ((HI3.out we HBE.out).2.src)
      have HEE := Lib.hid be
      obtain ⟨q0, q1⟩ := x2c.out we HBE.out
      rw [HWE2.out.2] at q0 q1
      clear hwe hE be
      go_upto_region 11 with (at_builtin; rw [← HWE2.out.2, ← HWE2.out.1]; refine wpList_app rfl _ _ 25 rfl 0 2 iN _ 1 8 Tryd.underlying25 hi hiz0 hiz1 hiz2 rfl (by omega) (.slice (some ⟨E, 0, none⟩) 0 0) 0 _ rfl HE.out (.slice A1 n1 d1) n1 (nums i1) rfl HSE.out (by have := HNN.out.2; unfold nums; rw [List.length_map]; omega) (nums_all _) (by simp [maxLen]; omega) (by omega) (by omega) ?_; intro vq w10 hoq hgq hatq; obtain ⟨_, QA, Qc, rfl⟩ := ownsRow_slice hoq; have HP10 := Lib.hid (And.intro hoq (And.intro (Chg.of_grown hgq) hatq)); clear hoq hgq hatq)
      have HQ : Hid (NumSrc w10 (.slice PA n0 Pc) i0 ∧ NumSrc w10 (.slice QA n1 Qc) i1 ∧ Below w3.heap.size w3 w10) := Lib.hid (by
        have h1 := HP10.out.1
        rw [show nums [] ++ nums i1 = nums i1 from rfl, HNN.out.2, Nat.zero_add] at h1
        have hE := HWE2.out.1
        have hb : Below w9.heap.size w9 w10 := HEE.out.trans (HP10.out.2.1.below (B := w9.heap.size) (fun k hk => by
          injection hk with hk
          subst hk
          exact Nat.le_of_eq hE.symm) HEE.out.size)
        have h2 := HP.out.1.keep hb
        rw [Nat.zero_add] at h2
        exact ⟨h2, by rw [HNN.out.2]; exact NumSrc.of_row h1, bel_trans HP.out.2.1 hb⟩)
      clear q0 q1
      have k1 := x1c.out w10 HQ.out.2.2
      obtain ⟨q0, q1⟩ := x2c.out w10 HQ.out.2.2
      have RF : Hid (∀ wx, Below w3.heap.size w3 wx → Calls Tryd.prog 12 #[.agg #[.slice AV j cV], .agg #[.slice A0 n0 d0, .slice A1 n1 d1], .int .i64 F, .int .i64 quota, .nilIface] wx fun e w' => ∃ v o, e = .returned v ∧ OutIs w' v o ∧ RunO gs i0 i1 F quota o ∧ Below wx.heap.size wx w' ∧ FreshV wx.heap.size w' v) := Lib.hid (fun wx hb => by
        have h := run_few (w := wx) (V := .slice AV j cV) (fs := fs) (fuel := F) (quota := quota) (HLL.out.keep (bel_trans H3.out.1 hb)).1 (by rw [← HGS.out]; exact H3.out.2.2.2.keep hb) (HI3.out wx hb).1 (HI3.out wx hb).2 (by have := HFB.out; omega)
        rw [← HGS.out] at h
        exact h)
      have CR := Lib.hid (RF.out w10 HQ.out.2.2)
      go_wp2_with fail
      refine CR.out.mono ?_; rintro e w11 ⟨va, a, rfl, hoa, hra, hb11, hfra⟩
      obtain ⟨AP, cP, AK, cK, AC, cC, rfl, np, nk, nc⟩ := outIs_shape hoa
      obtain ⟨lp, hlp⟩ : ∃ l, l = a.pr.length := ⟨_, rfl⟩
      obtain ⟨lk, hlk⟩ : ∃ l, l = a.ke.length := ⟨_, rfl⟩
      obtain ⟨lc, hlc⟩ : ∃ l, l = a.cl.length := ⟨_, rfl⟩
      obtain ⟨aclk, haclk⟩ : ∃ l, l = a.clk := ⟨_, rfl⟩
      obtain ⟨ares, hares⟩ : ∃ l, l = a.res := ⟨_, rfl⟩
      obtain ⟨aerr, haerr⟩ : ∃ l, l = a.err := ⟨_, rfl⟩
      have OP0 := OwnW.of np (fun k hk o => by
        obtain ⟨_, _, _, _, _, _, e, hfr⟩ := hfra
        injection e with e
        simp only [Array.mk.injEq, List.cons.injEq, and_true] at e
        obtain ⟨rfl, rfl, rfl, _⟩ := e
        exact (hfr _ (by simp) k hk).2.2 o)
      have OK0 := OwnW.of nk (fun k hk o => by
        obtain ⟨_, _, _, _, _, _, e, hfr⟩ := hfra
        injection e with e
        simp only [Array.mk.injEq, List.cons.injEq, and_true] at e
        obtain ⟨rfl, rfl, rfl, _⟩ := e
        exact (hfr _ (by simp) k hk).2.2 o)
      have TP : ∀ b off, (AP = some ⟨b, off, none⟩ ∨ AK = some ⟨b, off, none⟩) → w10.heap.size ≤ b ∧ b < w11.heap.size := fun b off h => by
        obtain ⟨_, _, _, _, _, _, e, hfr⟩ := hfra
        injection e with e
        simp only [Array.mk.injEq, List.cons.injEq, and_true] at e
        obtain ⟨rfl, rfl, rfl, _⟩ := e
        rcases h with rfl | rfl
        · have h := hfr (.slice (some ⟨b, off, none⟩) a.pr.length cP) (by simp) b rfl
          exact ⟨h.1, h.2.1⟩
        · have h := hfr (.slice (some ⟨b, off, none⟩) a.ke.length cK) (by simp) b rfl
          exact ⟨h.1, h.2.1⟩
      rw [← hlp] at np OP0
      rw [← hlk] at nk OK0
      rw [← hlc] at nc
      rw [← hlp, ← hlk, ← hlc, ← haclk, ← hares, ← haerr]
      have HA := Lib.hid (And.intro hlp (And.intro hlk (And.intro hlc (And.intro haclk (And.intro hares haerr)))))
      obtain ⟨w12, hw12⟩ : ∃ z, z = w11.alloc (.cells #[.slice AP lp cP, .slice AK lk cK, .slice AC lc cC, .int .i64 aclk, .int .i64 ares, .int .i64 aerr] 32) := ⟨_, rfl⟩
      obtain ⟨BA, hBA⟩ : ∃ z, z = w11.heap.size := ⟨_, rfl⟩
      have bA : Below w11.heap.size w11 w12 := by rw [hw12]; exact (Below.refl _ _).alloc (Nat.le_refl _) _
      have xA : w12.heap[BA]? = some (.cells #[.slice AP lp cP, .slice AK lk cK, .slice AC lc cC, .int .i64 aclk, .int .i64 ares, .int .i64 aerr] 32 (0, 0)) := by rw [hw12]; exact heap_new' hBA.symm
      have HA12 := Lib.hid (And.intro hb11 (And.intro bA (And.intro hBA (And.intro xA (And.intro OP0 (And.intro OK0 (And.intro TP (And.intro np (And.intro nk (And.intro nc hra))))))))))
      have HB12 : Hid (Below w3.heap.size w3 w12) := Lib.hid (bel_trans (bel_trans HQ.out.2.2 hb11) bA)
      have HW12 := Lib.hid (And.intro hw12 hBA)
      clear CR hoa hra hb11 hfra np nk nc hlp hlk hlc haclk hares haerr OP0 OK0 TP hw12 hBA bA xA k1 q0 q1
      have k1 := x1c.out w12 HB12.out
      obtain ⟨q0, q1⟩ := x2c.out w12 HB12.out
      have CR := Lib.hid (RF.out w12 HB12.out)
      go_upto_region 12 with fail
      rw [← HW12.out.1, ← HW12.out.2]
      go_wp2_with fail
      refine CR.out.mono ?_; rintro e w13 ⟨vb, b, rfl, hob, hrb, hb13, hfrb⟩
      obtain rfl := RunO.det HA12.out.2.2.2.2.2.2.2.2.2.2 hrb
      obtain ⟨BP, eP, BK, eK, BC, eC, rfl, mp, mk, mc⟩ := outIs_shape hob
      rw [← HA.out.1] at mp
      rw [← HA.out.2.1] at mk
      rw [← HA.out.2.2.1] at mc
      rw [← HA.out.1, ← HA.out.2.1, ← HA.out.2.2.1, ← HA.out.2.2.2.1, ← HA.out.2.2.2.2.1, ← HA.out.2.2.2.2.2]
      obtain ⟨w14, hw14⟩ : ∃ z, z = w13.alloc (.cells #[.slice BP lp eP, .slice BK lk eK, .slice BC lc eC, .int .i64 aclk, .int .i64 ares, .int .i64 aerr] 32) := ⟨_, rfl⟩
      obtain ⟨BB, hBB⟩ : ∃ z, z = w13.heap.size := ⟨_, rfl⟩
      have bB : Below w13.heap.size w13 w14 := by rw [hw14]; exact (Below.refl _ _).alloc (Nat.le_refl _) _
      have xB : w14.heap[BB]? = some (.cells #[.slice BP lp eP, .slice BK lk eK, .slice BC lc eC, .int .i64 aclk, .int .i64 ares, .int .i64 aerr] 32 (0, 0)) := by rw [hw14]; exact heap_new' hBB.symm
      have b1214 := bel_trans hb13 bB
      have TB : ∀ V ∈ [Value.slice BP lp eP, Value.slice BK lk eK, Value.slice BC lc eC], ∀ k, V.ownBlock = some k → w12.heap.size ≤ k := fun V hV k hk => by
        obtain ⟨_, _, _, _, _, _, e, hfr⟩ := hfrb
        injection e with e
        simp only [Array.mk.injEq, List.cons.injEq, and_true, Value.slice.injEq] at e
        obtain ⟨rfl, rfl, rfl, _⟩ := e
        rw [HA.out.1, HA.out.2.1, HA.out.2.2.1] at hV
        exact (hfr V hV k hk).1
      have xA14 := (Below.chg b1214).heap HA12.out.2.2.2.1 (fun x => x)
      have HB14 : Hid (BB = w13.heap.size ∧ Below w12.heap.size w12 w14 ∧ w14.heap[BA]? = some (.cells #[.slice AP lp cP, .slice AK lk cK, .slice AC lc cC, .int .i64 aclk, .int .i64 ares, .int .i64 aerr] 32 (0, 0)) ∧ w14.heap[BB]? = some (.cells #[.slice BP lp eP, .slice BK lk eK, .slice BC lc eC, .int .i64 aclk, .int .i64 ares, .int .i64 aerr] 32 (0, 0)) ∧ NumSrc w14 (.slice BP lp eP) a.pr ∧ NumSrc w14 (.slice BK lk eK) a.ke ∧ NumSrc w14 (.slice BC lc eC) a.cl ∧ w12.heap.size ≤ w13.heap.size ∧ (∀ V ∈ [Value.slice BP lp eP, Value.slice BK lk eK, Value.slice BC lc eC], ∀ k, V.ownBlock = some k → w12.heap.size ≤ k)) := Lib.hid ⟨hBB, b1214, xA14, xB, mp.keep bB, mk.keep bB, mc.keep bB, hb13.size, TB⟩
      have oA : OutIs w14 (.agg #[.slice AP lp cP, .slice AK lk cK, .slice AC lc cC, .int .i64 aclk, .int .i64 ares, .int .i64 aerr]) a := ⟨_, _, _, by rw [HA.out.2.2.2.1, HA.out.2.2.2.2.1, HA.out.2.2.2.2.2], (HA12.out.2.2.2.2.2.2.2.1.keep HA12.out.2.1).keep b1214, (HA12.out.2.2.2.2.2.2.2.2.1.keep HA12.out.2.1).keep b1214, (HA12.out.2.2.2.2.2.2.2.2.2.1.keep HA12.out.2.1).keep b1214⟩
      have oB : OutIs w14 (.agg #[.slice BP lp eP, .slice BK lk eK, .slice BC lc eC, .int .i64 aclk, .int .i64 ares, .int .i64 aerr]) a := ⟨_, _, _, by rw [HA.out.2.2.2.1, HA.out.2.2.2.2.1, HA.out.2.2.2.2.2], mp.keep bB, mk.keep bB, mc.keep bB⟩
      have CSM := same_any oA oB
      rw [sameV_refl] at CSM
      have CSM := Lib.hid CSM
      have HW14 := Lib.hid (And.intro hw14 hBB)
      have p0 := cell_of_block xA14 0
      have p1 := cell_of_block xA14 1
      have p2 := cell_of_block xA14 2
      have p3 := cell_of_block xA14 3
      have p4 := cell_of_block xA14 4
      have p5 := cell_of_block xA14 5
      have r0 := cell_of_block xB 0
      have r1 := cell_of_block xB 1
      have r2 := cell_of_block xB 2
      have r3 := cell_of_block xB 3
      have r4 := cell_of_block xB 4
      have r5 := cell_of_block xB 5
      simp at p0 p1 p2 p3 p4 p5 r0 r1 r2 r3 r4 r5
      clear CR hob hrb hb13 hfrb mp mk mc hw14 hBB bB xB b1214 TB xA14 oA oB k1 q0 q1
      go_upto_region 13 with fail
      rw [← HW14.out.1, ← HW14.out.2]
      go_upto_region 14 with fail
      refine CSM.out.mono ?_; rintro e w15 ⟨rfl, hb15⟩
      have hlp63 : lp ≤ 9223372036854775807 := by have := HA12.out.2.2.2.2.2.2.2.1.get; have h1 := this.2.1; have h2 := this.2.2.1; unfold maxLen at h2; omega
      have hlk63 : lk ≤ 9223372036854775807 := by have := HA12.out.2.2.2.2.2.2.2.2.1.get; have h1 := this.2.1; have h2 := this.2.2.1; unfold maxLen at h2; omega
      have b1215 := bel_trans HB14.out.2.1 hb15
      have HWI : Hid (WrI w15 w15 w10.heap.size w11.heap.size AP AK lp lk) := Lib.hid ⟨Chg.refl _ _, (HA12.out.2.2.2.2.1.keep HA12.out.2.1).keep b1215, (HA12.out.2.2.2.2.2.1.keep HA12.out.2.1).keep b1215⟩
      have XA : Hid (∀ wr, WrI w15 wr w10.heap.size w11.heap.size AP AK lp lk → wr.cell? ⟨BA, 0, none⟩ = some (.slice AP lp cP) ∧ wr.cell? ⟨BA, 1, none⟩ = some (.slice AK lk cK)) := Lib.hid (fun wr h => by
        have hh := h.chg.heap ((Below.chg hb15).heap HB14.out.2.2.1 (fun x => x)) (fun e => by have := HA12.out.2.2.1; omega)
        have h0 := cell_of_block hh 0
        have h1 := cell_of_block hh 1
        simp at h0 h1
        exact ⟨h0, h1⟩)
      have HB15 := Lib.hid (And.intro hb15 b1215)
      clear hb15 b1215 CSM p0 p1 p2 p3 p4 p5 r0 r1 r2 r3 r4 r5
      obtain ⟨p0, p1⟩ := XA.out w15 HWI.out
      go_upto_region 15 with fail
      go_loopg [17] lp (fun gk i wr => ∃ t : Nat, t ≤ lp ∧ gk = lp - t ∧ i = .int .i64 t ∧ Hid (WrI w15 wr w10.heap.size w11.heap.size AP AK lp lk))
      case atStart => exact ⟨0, by omega, rfl, rfl, HWI⟩
      case round =>
        clear p0 p1
        obtain ⟨t, ht, hk2, rfl, HW2⟩ := hrel
        have HK2 := Lib.hid hk2
        clear hk2
        obtain ⟨p0, p1⟩ := XA.out wr HW2.out
        by_cases hlt2 : t < lp
        · obtain ⟨b, off, u, e, hc, hfz⟩ := HW2.out.op t hlt2
          have hTT := HA12.out.2.2.2.2.2.2.1 b off (.inl e)
          have HW3' := Lib.hid (HW2.out.set (o := off + t) hTT 7)
          clear hTT
          subst e
          go_wp2_with fail
          go_roundg (lp - (t + 1))
          case measure => have := HK2.out; omega
          case rel => exact ⟨t + 1, by omega, rfl, by go_num, HW3'⟩
        · have het : (t : Int) = (lp : Int) := by omega
          have HW5 := Lib.hid HW2.out
          go_upto_region 19 with fail
          clear hlt2 het
          go_loopg [18] lk (fun gk i wr => ∃ t : Nat, t ≤ lk ∧ gk = lk - t ∧ i = .int .i64 t ∧ Hid (WrI w15 wr w10.heap.size w11.heap.size AP AK lp lk))
          case atStart => exact ⟨0, by omega, rfl, rfl, HW5⟩
          case round =>
            clear p0 p1
            obtain ⟨t3, ht3, hk3, rfl, HW6⟩ := hrel
            have HK3 := Lib.hid hk3
            clear hk3
            obtain ⟨p0, p1⟩ := XA.out wr HW6.out
            by_cases hlt3 : t3 < lk
            · obtain ⟨b, off, u, e, hc, hfz⟩ := HW6.out.ok t3 hlt3
              have hTT := HA12.out.2.2.2.2.2.2.1 b off (.inr e)
              have HW7 := Lib.hid (HW6.out.set (o := off + t3) hTT 7)
              clear hTT
              subst e
              go_wp2_with fail
              go_roundg (lk - (t3 + 1))
              case measure => have := HK3.out; omega
              case rel => exact ⟨t3 + 1, by omega, rfl, by go_num, HW7⟩
            · obtain ⟨wz, hwz⟩ : ∃ z, z = wr := ⟨_, rfl⟩
              rw [← hwz] at HW6 p0 p1 ⊢
              clear hwz
              have hB3z : Below w10.heap.size w10 wz := (((HA12.out.1.trans (HA12.out.2.1.mono HA12.out.1.size)).trans (HB15.out.2.mono (HA12.out.1.trans (HA12.out.2.1.mono HA12.out.1.size)).size))).trans (HW6.out.chg.below (B := w10.heap.size) (fun k hk => hk.1) (((HA12.out.1.trans (HA12.out.2.1.mono HA12.out.1.size)).trans (HB15.out.2.mono (HA12.out.1.trans (HA12.out.2.1.mono HA12.out.1.size)).size))).size)
              have HBz := Lib.hid (And.intro hB3z (bel_trans HQ.out.2.2 hB3z))
              clear hB3z
              go_upto_region 24 with fail
              clear hlt3 p0 p1
              have k1 := x1c.out wz HBz.out.2
              go_loopg [19, 20] j (fun gk s i wr => ∃ (t : Nat) (S2 : ByteArray), t ≤ j ∧ gk = j - t ∧ s = .string S2 ∧ i = .int .i64 t ∧ Hid (S2 = txts (gs.take t) ∧ Below wz.heap.size wz wr))
              case atStart => exact ⟨0, ⟨#[]⟩, by omega, rfl, rfl, rfl, Lib.hid ⟨rfl, Below.refl _ _⟩⟩
              case round =>
                clear k1
                obtain ⟨t4, S2, ht4, hk4, rfl, rfl, HB4⟩ := hrel
                have HK4 := Lib.hid hk4
                clear hk4
                have hb4 := bel_trans HBz.out.2 HB4.out.2
                have k1 := x1c.out wr hb4
                by_cases hlt4 : t4 < j
                · obtain ⟨b, off, cap, B, d, e, c4, CT⟩ := LT.out wr t4 hb4 hlt4
                  have htk : Hid (txts (gs.take (t4 + 1)) = txts (gs.take t4) ++ ⟨(textL (gs.getD t4 noFn).l (gs.getD t4 noFn).l.length).toArray⟩) := Lib.hid (by
                    have hjl : t4 < gs.length := by rw [← HN.out]; exact hlt4
                    have hg : gs.getD t4 noFn = gs[t4] := by rw [List.getD_eq_getElem?_getD, List.getElem?_eq_getElem hjl]; rfl
                    rw [txts_take hjl, hg])
                  have hsz : (txts (gs.take t4)).size + (⟨(textL (gs.getD t4 noFn).l (gs.getD t4 noFn).l.length).toArray⟩ : ByteArray).size ≤ 100000000000 := by
                    have h1 := txts_size (gs.take (t4 + 1)) (fun f hf => HFU.out f (List.mem_of_mem_take hf))
                    rw [htk.out, bytes_size] at h1
                    have h2 : (gs.take (t4 + 1)).length ≤ 6 := by rw [List.length_take]; have := HN.out; omega
                    omega
                  rw [← HB4.out.1] at hsz
                  generalize (gs.getD t4 noFn).l = L at *
                  injection e with e1 _ e3
                  subst e1 e3
                  have CT := Lib.hid CT
                  obtain ⟨T, hT⟩ : ∃ T : ByteArray, T = ⟨(textL L L.length).toArray⟩ := ⟨_, rfl⟩
                  rw [← hT] at CT htk hsz
                  clear hT hb4
                  generalize L.length = ll at *
                  go_wp2_with fail
                  refine CT.out.mono ?_; rintro e w16 ⟨rfl, hb16⟩
                  have HB16 := Lib.hid (And.intro (HB4.out.1) (bel_trans HB4.out.2 hb16))
                  clear hb16 CT k1 c4
                  go_wp2_with fail
                  go_roundg (j - (t4 + 1))
                  case measure => have := HK4.out; omega
                  case rel => exact ⟨t4 + 1, _, by omega, rfl, rfl, by go_num, Lib.hid ⟨by rw [htk.out, HB16.out.1], HB16.out.2⟩⟩
                · have hS2 : S2 = S := by rw [HB4.out.1, HS.out, List.take_of_length_le (by have := HN.out; omega)]
                  go_upto_region 27 with fail
                  clear k1
                  subst hS2
                  obtain ⟨wy, hwy⟩ : ∃ z, z = wr := ⟨_, rfl⟩
                  rw [← hwy] at HB4 ⊢
                  clear hwy
                  have HSX : Hid (∀ w', Below wy.heap.size wy w' → (w'.cell? ⟨Q1, 0, none⟩ = some (.slice AV j cV) ∧ w'.cell? ⟨Q2, 0, none⟩ = some (.slice A0 n0 d0) ∧ w'.cell? ⟨Q2, 1, none⟩ = some (.slice A1 n1 d1)) ∧ (w'.cell? ⟨BB, 0, none⟩ = some (.slice BP lp eP) ∧ w'.cell? ⟨BB, 1, none⟩ = some (.slice BK lk eK) ∧ w'.cell? ⟨BB, 2, none⟩ = some (.slice BC lc eC) ∧ w'.cell? ⟨BB, 3, none⟩ = some (.int .i64 aclk) ∧ w'.cell? ⟨BB, 4, none⟩ = some (.int .i64 ares) ∧ w'.cell? ⟨BB, 5, none⟩ = some (.int .i64 aerr))) := Lib.hid (fun w' hb => by
                    have hb3 := bel_trans HBz.out.2 (bel_trans HB4.out.2 hb)
                    have hq := (Below.chg (bel_trans HB4.out.2 hb)).heap (HW6.out.chg.heap ((Below.chg HB15.out.1).heap HB14.out.2.2.2.1 (fun x => x)) (fun e => by have e : w10.heap.size ≤ BB ∧ BB < w11.heap.size := e; have h1 := HB14.out.1; have h2 := HB14.out.2.2.2.2.2.2.2.1; have h3 := HA12.out.2.1.size; omega)) (fun x => x)
                    have q0 := cell_of_block hq 0
                    have q1 := cell_of_block hq 1
                    have q2 := cell_of_block hq 2
                    have q3 := cell_of_block hq 3
                    have q4 := cell_of_block hq 4
                    have q5 := cell_of_block hq 5
                    simp at q0 q1 q2 q3 q4 q5
                    exact ⟨⟨x1c.out w' hb3, (x2c.out w' hb3).1, (x2c.out w' hb3).2⟩, q0, q1, q2, q3, q4, q5⟩)
                  have HPQ : Hid (∀ w', Below wy.heap.size wy w' → NumSrc w' (.slice PA n0 Pc) i0 ∧ NumSrc w' (.slice QA n1 Qc) i1) := Lib.hid (fun w' hb => by
                    have hb3 := bel_trans HBz.out.1 (bel_trans HB4.out.2 hb)
                    exact ⟨HQ.out.1.keep hb3, HQ.out.2.1.keep hb3⟩)
                  have HBO : Hid (∀ w', Below wy.heap.size wy w' → OutIs w' (.agg #[.slice BP lp eP, .slice BK lk eK, .slice BC lc eC, .int .i64 aclk, .int .i64 ares, .int .i64 aerr]) a) := Lib.hid (fun w' hb => by
                    have hb3 := bel_trans HB4.out.2 hb
                    have hno : ∀ V ∈ [Value.slice BP lp eP, Value.slice BK lk eK, Value.slice BC lc eC], ∀ k, V.ownBlock = some k → ¬ (w10.heap.size ≤ k ∧ k < w11.heap.size) := fun V hV k hk h => by
                      have h1 := HB14.out.2.2.2.2.2.2.2.2 V hV k hk
                      have h3 := HA12.out.2.1.size
                      omega
                    exact ⟨_, _, _, by rw [HA.out.2.2.2.1, HA.out.2.2.2.2.1, HA.out.2.2.2.2.2], ((HB14.out.2.2.2.2.1.keep HB15.out.1).keptX HW6.out.chg (hno _ (by simp))).keep hb3, ((HB14.out.2.2.2.2.2.1.keep HB15.out.1).keptX HW6.out.chg (hno _ (by simp))).keep hb3, ((HB14.out.2.2.2.2.2.2.1.keep HB15.out.1).keptX HW6.out.chg (hno _ (by simp))).keep hb3⟩)
                  have HB3y : Hid (Below w3.heap.size w3 wy) := Lib.hid (bel_trans HBz.out.2 HB4.out.2)
                  obtain ⟨wd0, hwd⟩ : ∃ wd, wd = wy.drew := ⟨_, rfl⟩
                  have hb : Below wy.heap.size wy wd0 := by rw [hwd]; exact (Below.refl _ _).drew
                  have hS := HSX.out wd0 hb
                  refine wp_region_ord (S := fun w' => (w'.cell? ⟨Q1, 0, none⟩ = some (.slice AV j cV) ∧ w'.cell? ⟨Q2, 0, none⟩ = some (.slice A0 n0 d0) ∧ w'.cell? ⟨Q2, 1, none⟩ = some (.slice A1 n1 d1)) ∧ (w'.cell? ⟨BB, 0, none⟩ = some (.slice BP lp eP) ∧ w'.cell? ⟨BB, 1, none⟩ = some (.slice BK lk eK) ∧ w'.cell? ⟨BB, 2, none⟩ = some (.slice BC lc eC) ∧ w'.cell? ⟨BB, 3, none⟩ = some (.int .i64 aclk) ∧ w'.cell? ⟨BB, 4, none⟩ = some (.int .i64 ares) ∧ w'.cell? ⟨BB, 5, none⟩ = some (.int .i64 aerr))) (N := fun i => true) (by kernel_rfl) [(0, true), (1, true), (2, true), (3, true), (4, true), (5, true), (6, true), (7, true), (8, true), (9, true), (10, true), (11, true), (12, true), (13, false), (14, true), (15, true), (16, true), (17, true), (18, true), (19, false), (20, true), (21, true), (22, true), (23, true), (24, true), (25, true), (26, true), (27, false), (28, false), (29, true), (30, true)] (by kernel_rfl) ?_
                  rw [← hwd]
                  clear hwd
                  iterate 13 (refine ord_look rfl hS rfl (by intro w hS; obtain ⟨⟨p0, p1, p2⟩, q0, q1, q2, q3, q4, q5⟩ := hS; go_simp; with_reducible rfl) (fun c a w h => h) ?_; simp only [Act.put, List.setIfInBounds_toArray, List.set_cons_succ, List.set_cons_zero])
                  refine ord_act rfl rfl (fun K hK => ?_)
                  refine wp_call 18 _ _ Tryd.func18 rfl (by kernel_rfl) _ _ rfl #[.slice A0 n0 d0, .slice PA n0 Pc] (by simp [Act.eval]) (R := fun v w' => (v = .bool true) ∧ Below wy.heap.size wy w') (calls_ret (rows_any (HI3.out _ (bel_trans HB3y.out hb)).1 (HPQ.out _ hb).1) (by rintro e w' ⟨rfl, k, rfl⟩; rw [decide_eq_true rfl]; exact ⟨_, rfl, rfl, belowN hb _⟩)) ?_
                  rintro v wv1 ⟨rfl, hb13⟩
                  have hS := HSX.out _ hb13
                  refine hK _ _ ⟨fun _ => hS, ?_⟩
                  clear hK K
                  try simp only [Act.put, List.setIfInBounds_toArray, List.set_cons_succ, List.set_cons_zero]
                  iterate 5 (refine ord_look rfl hS rfl (by intro w hS; obtain ⟨⟨p0, p1, p2⟩, q0, q1, q2, q3, q4, q5⟩ := hS; go_simp; with_reducible rfl) (fun c a w h => h) ?_; simp only [Act.put, List.setIfInBounds_toArray, List.set_cons_succ, List.set_cons_zero])
                  refine ord_act rfl rfl (fun K hK => ?_)
                  refine wp_call 18 _ _ Tryd.func18 rfl (by kernel_rfl) _ _ rfl #[.slice A1 n1 d1, .slice QA n1 Qc] (by simp [Act.eval]) (R := fun v w' => (v = .bool true) ∧ Below wy.heap.size wy w') (calls_ret (rows_any (HI3.out _ (bel_trans HB3y.out hb13)).2 (HPQ.out _ hb13).2) (by rintro e w' ⟨rfl, k, rfl⟩; rw [decide_eq_true rfl]; exact ⟨_, rfl, rfl, belowN hb13 _⟩)) ?_
                  rintro v wv2 ⟨rfl, hb19⟩
                  have hS := HSX.out _ hb19
                  refine hK _ _ ⟨fun _ => hS, ?_⟩
                  clear hK K
                  try simp only [Act.put, List.setIfInBounds_toArray, List.set_cons_succ, List.set_cons_zero]
                  iterate 7 (refine ord_look rfl hS rfl (by intro w hS; obtain ⟨⟨p0, p1, p2⟩, q0, q1, q2, q3, q4, q5⟩ := hS; go_simp; with_reducible rfl) (fun c a w h => h) ?_; simp only [Act.put, List.setIfInBounds_toArray, List.set_cons_succ, List.set_cons_zero])
                  refine ord_act rfl rfl (fun K hK => ?_)
                  refine wp_call 12 _ _ Tryd.func12 rfl (by kernel_rfl) _ _ rfl #[.agg #[.slice AV j cV], .agg #[.slice A0 n0 d0, .slice A1 n1 d1], .int .i64 F, .int .i64 quota, .nilIface] (by simp [Act.eval]) (R := fun v w' => (OutIs w' v a) ∧ Below wy.heap.size wy w') (calls_ret (RF.out _ (bel_trans HB3y.out hb19)) (by rintro e w' ⟨v', o, rfl, ho, hr, hb', _⟩; obtain rfl := RunO.det HA12.out.2.2.2.2.2.2.2.2.2.2 hr; exact ⟨_, rfl, ho, bel_trans hb19 hb'⟩)) ?_
                  rintro v3 wv3 ⟨hov, hb27⟩
                  have hS := HSX.out _ hb27
                  refine hK _ _ ⟨fun _ => hS, ?_⟩
                  clear hK K
                  try simp only [Act.put, List.setIfInBounds_toArray, List.set_cons_succ, List.set_cons_zero]
                  refine ord_act rfl rfl (fun K hK => ?_)
                  refine wp_call 14 _ _ Tryd.func14 rfl (by kernel_rfl) _ _ rfl #[.agg #[.slice BP lp eP, .slice BK lk eK, .slice BC lc eC, .int .i64 aclk, .int .i64 ares, .int .i64 aerr], v3] (by simp [Act.eval]) (R := fun v w' => (v = .bool true) ∧ Below wy.heap.size wy w') (calls_ret (same_any (HBO.out _ hb27) hov) (by rintro e w' ⟨rfl, hb'⟩; rw [sameV_refl]; exact ⟨_, rfl, rfl, bel_trans hb27 hb'⟩)) ?_
                  rintro v wv4 ⟨rfl, hb28⟩
                  have hS := HSX.out _ hb28
                  refine hK _ _ ⟨fun _ => hS, ?_⟩
                  clear hK K
                  try simp only [Act.put, List.setIfInBounds_toArray, List.set_cons_succ, List.set_cons_zero]
                  iterate 2 (refine ord_look rfl hS rfl (by intro w hS; obtain ⟨⟨p0, p1, p2⟩, q0, q1, q2, q3, q4, q5⟩ := hS; go_simp; with_reducible rfl) (fun c a w h => h) ?_; simp only [Act.put, List.setIfInBounds_toArray, List.set_cons_succ, List.set_cons_zero])
                  refine ord_end ?_
                  have HF := Lib.hid (bel_trans H3.out.1 (bel_trans HB3y.out hb28))
                  go_wp2_with fail
                  go_ret
                  exact ⟨rfl, HF.out⟩
end Go.Proofs.YtdpimkbdieafgaaDoor
