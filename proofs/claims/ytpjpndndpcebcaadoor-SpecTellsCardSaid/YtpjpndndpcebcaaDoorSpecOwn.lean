/- SpecOwn. -/
import Derived.Test.YtpjpndndpcebcaaDoorSpecShown
namespace Go.Proofs.YtpjpndndpcebcaaDoor
set_option linter.unusedVariables false
set_option linter.unusedSimpArgs false
open Go.RowKit

/-- the first so many of a row that came in -/
theorem BodyAt.take {w : World} {A : Option Addr} {c : Nat} {l : List InsR} (h : BodyAt w A c l) (m : Nat) (hm : m ≤ l.length) : Src w (.slice A m c) (l.take m).length (insCells (l.take m)) := by
  have hl : (l.take m).length = m := by rw [List.length_take]; omega
  rw [hl]
  rcases h.src with ⟨_, h0, _⟩ | ⟨b, off, cap, e, hb, h1, h2, h3⟩
  · have : m = 0 := by omega
    subst this
    exact .inl ⟨⟨A, c, rfl⟩, rfl, rfl⟩
  · injection e with e1 e2 e3
    subst e1 e3
    refine .inr ⟨b, off, c, rfl, hb, by omega, by omega, fun j u hu => h3 j u ?_⟩
    have : insCells l = insCells (l.take m) ++ insCells (l.drop m) := by rw [← insCells_append, List.take_append_drop]
    rw [this, List.getElem?_append_left (List.getElem?_eq_some_iff.1 hu).1]
    exact hu
theorem BodyAt.keep {w w' : World} {A : Option Addr} {c : Nat} {l : List InsR} (h : BodyAt w A c l) (hb : Below w.heap.size w w') : BodyAt w' A c l := ⟨h.src.kept (Below.chg hb) (.inr fun _ _ x => x), h.full, h.fits, h.bytes⟩

theorem foldv_le : ∀ (n : Nat) (l : List InsR), l.length = n → (foldv l).length ≤ l.length := by
  intro n
  induction n using Nat.strongRecOn with
  | _ n ih =>
    intro l hl
    cases e : firstRule l with
    | none => rw [foldv_none e]; exact Nat.le_refl _
    | some l' =>
      rw [foldv_some e]
      have := firstRule_less e
      have := ih l'.length (by omega) l' rfl
      omega
theorem forv_le (l : List InsR) (ps k n : Int) : (forv l ps k n).length ≤ l.length := by
  unfold forv
  split
  · have := foldv_le _ (l.map (putI k n)) rfl
    rw [List.length_map] at this
    exact this
  · exact foldv_le _ l rfl

structure FnR where
  nm : ByteArray
  ps : Int
  vs : Int
  ar : Int
  l : List InsR
/-- a function of code that is handed in -/
structure FnAt (w : World) (f : FnR) (cs : List Value) : Prop where
  is : ∃ A c, cs = [.string f.nm, .int .i64 f.ps, .int .i64 f.vs, .int .i64 f.ar, .slice A f.l.length c] ∧ BodyAt w A c f.l
def rdFn : Rd FnR := ⟨5, fun w f cs => FnAt w f cs⟩
theorem opens_fn (n : Nat) : Rd.Opens Tryd.prog 24 rdFn n := fun H enc W base spare held fuel cs x hf h hw => by
  obtain ⟨m, hm, hl, hp⟩ := Rd.open_struct [9, 3, 3, 3, 22] Tryd.underlying24 (by kernel_rfl) (by kernel_rfl) (by kernel_rfl) h hw
  match cs, hl with
  | [c0, c1, c2, c3, c4], _ =>
    obtain ⟨y0, h0, _⟩ := hp 0 _ c0 rfl rfl
    obtain ⟨y1, h1, _⟩ := hp 1 _ c1 rfl rfl
    obtain ⟨y2, h2, _⟩ := hp 2 _ c2 rfl rfl
    obtain ⟨y3, h3, _⟩ := hp 3 _ c3 rfl rfl
    obtain ⟨y4, h4, hw4⟩ := hp 4 _ c4 rfl rfl
    obtain ⟨s0, e0, _, _⟩ := DataW.trod_string Tryd.underlying9 h0
    obtain ⟨a1, e1, _, _⟩ := DataW.trod_int Tryd.underlying3 h1
    obtain ⟨a2, e2, _, _⟩ := DataW.trod_int Tryd.underlying3 h2
    obtain ⟨a3, e3, _, _⟩ := DataW.trod_int Tryd.underlying3 h3
    obtain ⟨bd, hb, _⟩ := opens_body n H enc W base spare held m [c4] y4 (by omega) h4 hw4
    obtain ⟨A, c, e4, hB⟩ := body_of hb
    simp only [List.cons.injEq, and_true] at e0 e1 e2 e3
    subst e0; subst e1; subst e2; subst e3; subst e4
    exact ⟨⟨s0, a1, a2, a3, bd⟩, ⟨A, c, rfl, hB⟩, rfl⟩

set_option maxHeartbeats 4000000 in
set_option maxRecDepth 100000 in
theorem specOwn_walk (W : World) (f : FnR) (cs : List Value) (k q : Int) (hL : SortsIs W) (hf : rdFn.K W f cs) (wk : (Lit.int .i64 k).wf = true) (wq : (Lit.int .i64 q).wf = true) :
    Calls Tryd.prog 4 #[.agg cs.toArray, .int .i64 k, .int .i64 q] W fun e w' => e = .returned (.bool true) ∧ Below W.heap.size W w' := by
  obtain ⟨nm, ps, vs, ar, l⟩ := f
  have hf : FnAt W ⟨nm, ps, vs, ar, l⟩ cs := hf
  obtain ⟨A, c, rfl, hB⟩ := hf.is
  simp only at hB
  simp only [List.toArray]
  obtain ⟨n, hn⟩ : ∃ n, n = l.length := ⟨_, rfl⟩
  rw [← hn]
  have hnc : n ≤ c := by have := hB.fits; omega
  have hnb : n * 24 ≤ 140737488351232 := by have := hB.bytes; omega
  have HN := Lib.hid hn
  have HB := Lib.hid hB
  clear hf hn hB
  obtain ⟨i0, hi, hz0, hz1, hz2⟩ := info_parts infoIns
  obtain ⟨m, hm⟩ : ∃ m : Nat, m = if n < 80 then n else 80 := ⟨_, rfl⟩
  have hmi : min (n : Int) 80 = (m : Int) := by rw [hm]; split <;> omega
  have hmn : m ≤ n := by rw [hm]; split <;> omega
  have hm80 : m ≤ 80 := by rw [hm]; split <;> omega
  clear hm
  obtain ⟨L, hLd⟩ : ∃ L, L = l.take m := ⟨_, rfl⟩
  have HLL : Hid (L.length = m) := Lib.hid (by rw [hLd, List.length_take]; have := HN.out; omega)
  have HWF : Hid (∀ x ∈ L, WfI x) := Lib.hid (fun x hx => (HB.out.full x (by rw [hLd] at hx; exact List.mem_of_mem_take hx)).wf)
  have HSRC : Hid (∀ w', Below W.heap.size W w' → Src w' (.slice A m c) m (insCells L)) := Lib.hid (fun w' hb => by
    have h := (HB.out.keep hb).take m (by have := HN.out; omega)
    rw [← hLd, HLL.out] at h
    exact h)
  clear hLd
  obtain ⟨P, hP⟩ : ∃ P, P = W.heap.size := ⟨_, rfl⟩
  obtain ⟨w0, hw0⟩ : ∃ w0, w0 = W.alloc (.cells #[.string nm, .int .i64 ps, .int .i64 vs, .int .i64 ar, .slice A n c] 24) := ⟨_, rfl⟩
  have hb0 : Below W.heap.size W w0 := by rw [hw0]; exact (Below.refl _ _).alloc (Nat.le_refl _) _
  have HP0 : Hid (w0.heap[P]? = some (.cells #[.string nm, .int .i64 ps, .int .i64 vs, .int .i64 ar, .slice A n c] 24 (0, 0))) := Lib.hid (by rw [hw0]; exact heap_new' hP.symm)
  have CS := Lib.hid (shown_any (hL.keep hb0))
  have HB0 := Lib.hid hb0
  have HWE := Lib.hid (And.intro hP hw0)
  clear hP hw0 hb0 hL
  go_enter Tryd.func4, Tryd.ntmps4
  go_wp2_with fail
  rw [← HWE.out.2]
  refine CS.out.mono ?_; rintro e w1 ⟨rfl, hb1⟩
  rw [← HWE.out.1]
  have hp1 := (Below.chg hb1).heap HP0.out (fun x => x)
  have HB1 := Lib.hid (bel_trans HB0.out hb1)
  have HP1 := Lib.hid hp1
  have hPl : P < w1.heap.size := lt_of_heap hp1
  clear hb1 CS hp1
  obtain ⟨wx, hwx⟩ : ∃ wx, wx = w1.alloc (.cells #[] 39) := ⟨_, rfl⟩
  have HBX : Hid (Below W.heap.size W wx) := Lib.hid (by rw [hwx]; exact HB1.out.alloc HB1.out.size _)
  have HROW : Hid (wx.ownsRow 0 39 3 (.slice (some ⟨w1.heap.size, 0, none⟩) 0 0) 0 []) := Lib.hid ⟨rfl, .inr ⟨w1.heap.size, 0, #[], rfl, Nat.zero_le _, by rw [hwx]; exact heap_new _ _, Nat.le_refl _, by simp [maxLen], rfl, rfl⟩⟩
  have HPX : Hid (wx.heap[P]? = some (.cells #[.string nm, .int .i64 ps, .int .i64 vs, .int .i64 ar, .slice A n c] 24 (0, 0))) := Lib.hid (by rw [hwx]; exact ((Chg.refl (fun _ => False) _).alloc _).heap HP1.out (fun x => x))
  have HSX := Lib.hid (HSRC.out wx HBX.out)
  have HWX := Lib.hid hwx
  have HSZ : Hid (wx.heap.size = w1.heap.size + 1) := Lib.hid (by rw [hwx]; simp)
  clear hwx
  have c4 := cell_of_block HP1.out 4
  simp at c4
  go_wp2_with (at_builtin; rw [← HWX.out]; refine wpList_app rfl _ _ _ rfl 0 39 i0 _ 3 24 Tryd.underlying22 hi hz0 hz1 hz2 rfl (by omega) (.slice (some ⟨w1.heap.size, 0, none⟩) 0 0) 0 [] rfl HROW.out (.slice A m c) m (insCells L) rfl HSX.out (by rw [insCells_length, HLL.out]) (insCells_one _) (by unfold maxLen; omega) (by omega) (by omega) ?_; intro v2 w2 hown2 hgrow2 hat2; rw [Nat.zero_add, List.nil_append] at hown2; obtain ⟨_, A2, c2, rfl⟩ := ownsRow_slice hown2; have hc2 := Chg.of_grown hgrow2; have hp2 := hc2.heap HPX.out (fun e => by (have e : some w1.heap.size = some P := e); injection e with e; omega); have k4 := cell_of_block hp2 4; have kf := frozen_of_block hp2 4; have k0 := cell_of_block hp2 0; have k1 := cell_of_block hp2 1; have k2 := cell_of_block hp2 2; have k3 := cell_of_block hp2 3; simp at k0 k1 k2 k3 k4; have HP2 := Lib.hid hp2; clear hp2 c4)
  obtain ⟨w3, hw3⟩ : ∃ w3, w3 = w2.setCell ⟨P, 4, none⟩ (.slice A2 m c2) := ⟨_, rfl⟩
  have hset : Chg (fun k => k = P) w2 w3 := by rw [hw3]; exact Chg.set_cell ⟨P, 4, none⟩ _
  have hne : (Value.slice A2 m c2).ownBlock ≠ some P := fun e => by
    rcases hat2 with h | h
    · rw [h] at e
      have e : some w1.heap.size = some P := e
      injection e with e
      omega
    · rw [h] at e
      injection e with e
      have := HSZ.out
      omega
  have HP3 : Hid (w3.heap[P]? = some (.cells #[.string nm, .int .i64 ps, .int .i64 vs, .int .i64 ar, .slice A2 m c2] 24 (0, 0))) := Lib.hid (by rw [hw3]; exact heap_set HP2.out 4 _)
  have HO3 : Hid (w3.ownsRow 0 39 3 (.slice A2 m c2) m (insCells L)) := Lib.hid (ownsRow_kept hown2 hset (fun k hk e => hne (by rw [← e]; exact hk)))
  have HB3 : Hid (Below W.heap.size W w3) := Lib.hid (by
    have hb2 := HBX.out.trans (hc2.below (B := W.heap.size) (fun k hk => by
      have hk : some w1.heap.size = some k := hk
      injection hk with hk
      have := HB1.out.size
      omega) HBX.out.size)
    exact hb2.trans (hset.below (B := W.heap.size) (fun k hk => by rw [hk, HWE.out.1]; exact Nat.le_refl _) hb2.size))
  have C3 := Lib.hid (ref_any (w := w3) (V := .slice A2 m c2) (l := L) nm ps vs ar (by rw [HLL.out]; exact Src.of_row HO3.out) (by rw [HLL.out]; omega))
  rw [← hw3]
  clear hw3 hset hown2 hgrow2 hat2 hc2 k0 k1 k2 k3 k4 kf HP2
  refine C3.out.mono ?_; rintro e w4 ⟨V4, rfl, ho4, hn4, hb4⟩
  rw [HLL.out] at ho4
  obtain ⟨_, A4, c4, rfl⟩ := ownsRow_slice ho4
  have hp4 := (Below.chg hb4).heap HP3.out (fun x => x)
  have HB4 := Lib.hid (bel_trans HB3.out hb4)
  have HO4 := Lib.hid ho4
  have HOL := Lib.hid (ownsRow_kept HO3.out (Below.chg hb4) (fun _ _ x => x))
  obtain ⟨Q, hQ⟩ : ∃ Q, Q = w4.heap.size := ⟨_, rfl⟩
  obtain ⟨w5, hw5⟩ : ∃ w5, w5 = w4.alloc (.cells #[.string nm, .int .i64 ps, .int .i64 vs, .int .i64 ar, .slice A4 m c4] 28) := ⟨_, rfl⟩
  have h45 : Below w4.heap.size w4 w5 := by rw [hw5]; exact (Below.refl _ _).alloc (Nat.le_refl _) _
  have hp5 := (Below.chg h45).heap hp4 (fun x => x)
  have HQ5 : Hid (w5.heap[Q]? = some (.cells #[.string nm, .int .i64 ps, .int .i64 vs, .int .i64 ar, .slice A4 m c4] 28 (0, 0))) := Lib.hid (by rw [hw5]; exact heap_new' hQ.symm)
  have HOL5 := Lib.hid (ownsRow_kept HOL.out (Below.chg h45) (fun _ _ x => x))
  have HO45 := Lib.hid (ownsRow_kept HO4.out (Below.chg h45) (fun _ _ x => x))
  have HB5 := Lib.hid (bel_trans HB4.out h45)
  have HP5 := Lib.hid hp5
  have C5 := Lib.hid (for_any (w := w5) (V := .slice A2 m c2) (l := L) nm ps vs ar k q (by rw [HLL.out]; exact Src.of_row HOL5.out) (by rw [HLL.out]; omega) HWF.out)
  have c0 := cell_of_block hp5 0
  have c1 := cell_of_block hp5 1
  have c2' := cell_of_block hp5 2
  have c3 := cell_of_block hp5 3
  have c4' := cell_of_block hp5 4
  simp at c0 c1 c2' c3 c4'
  rw [hw5] at c0 c1 c2' c3 c4'
  have HWE5 := Lib.hid (And.intro hw5 hQ)
  clear hp4 hp5 h45 hb4 ho4 hn4 hw5 hQ C3
  go_wp2_with fail
  rw [← HWE5.out.1]
  refine C5.out.mono ?_; rintro e w6 ⟨va, rfl, hoa, hna, hb6⟩
  rw [← HWE5.out.2]
  have HB6 := Lib.hid (bel_trans HB5.out hb6)
  have H56 := Lib.hid hb6
  have HP6 := Lib.hid ((Below.chg hb6).heap HP5.out (fun x => x))
  have HQ6 := Lib.hid ((Below.chg hb6).heap HQ5.out (fun x => x))
  have HOL6 := Lib.hid (ownsRow_kept HOL5.out (Below.chg hb6) (fun _ _ x => x))
  have HO46 := Lib.hid (ownsRow_kept HO45.out (Below.chg hb6) (fun _ _ x => x))
  have HOa := Lib.hid hoa
  have HNa := Lib.hid hna
  have HNal := Lib.hid (ownsRow_lt hoa)
  obtain ⟨_, Aa, ca, rfl⟩ := ownsRow_slice hoa
  have C6 := Lib.hid (plain_any (w := w6) (V := .slice A2 m c2) (l := L) nm ps vs ar (by rw [HLL.out]; exact Src.of_row HOL6.out) (by rw [HLL.out]; omega) HWF.out)
  clear c0 c1 c2' c3 c4' hoa hna hb6 HWE5 C5
  have c0 := cell_of_block HP6.out 0
  have c1 := cell_of_block HP6.out 1
  have c2' := cell_of_block HP6.out 2
  have c3 := cell_of_block HP6.out 3
  have c4' := cell_of_block HP6.out 4
  simp at c0 c1 c2' c3 c4'
  go_wp2_with fail
  refine C6.out.mono ?_; rintro e w7 ⟨vb, rfl, hob, hnb', hb7⟩
  obtain ⟨_, Ab, cb, rfl⟩ := ownsRow_slice hob
  have HB7 := Lib.hid (bel_trans HB6.out hb7)
  have HP7 := Lib.hid ((Below.chg hb7).heap HP6.out (fun x => x))
  have HQ7 := Lib.hid ((Below.chg hb7).heap HQ6.out (fun x => x))
  have HOL7 := Lib.hid (ownsRow_kept HOL6.out (Below.chg hb7) (fun _ _ x => x))
  have HO47 := Lib.hid (ownsRow_kept HO46.out (Below.chg hb7) (fun _ _ x => x))
  have HOb := Lib.hid hob
  have HNb := Lib.hid hnb'
  have HOa7 := Lib.hid (ownsRow_kept HOa.out (Below.chg hb7) (fun _ _ x => x))
  obtain ⟨pa, hpa⟩ : ∃ pa, pa = (forv L ps k q).length := ⟨_, rfl⟩
  obtain ⟨pb, hpb⟩ : ∃ pb, pb = (foldv L).length := ⟨_, rfl⟩
  have HPA := Lib.hid hpa
  have HPB := Lib.hid hpb
  have hpab : pa ≤ 1048576 := by rw [hpa]; have := forv_le L ps k q; have := HLL.out; omega
  have hpbb : pb ≤ 1048576 := by rw [hpb]; have := foldv_le _ L rfl; have := HLL.out; omega
  rw [← hpa] at HOa7 HNa HNal
  rw [← hpb] at HNb HOb
  rw [← hpa, ← hpb]
  clear hpa hpb c0 c1 c2' c3 c4' hob hnb' hb7 C6
  go_wp2_with fail
  go_loopg [11] pa (fun kk v wr => ∃ j : Nat, j ≤ pa ∧ kk = pa - j ∧ v = .int .i64 j ∧ (∃ X : List InsR, X.length = pa ∧ Hid (wr.ownsRow 0 39 3 (.slice Aa pa ca) pa (insCells X))) ∧ Hid (Chg (fun k => (Value.slice Aa pa ca).ownBlock = some k) w7 wr))
  case atStart => exact ⟨0, by omega, rfl, rfl, ⟨forv L ps k q, HPA.out.symm, HOa7⟩, Lib.hid (Chg.refl _ _)⟩
  case round =>
    obtain ⟨j, hj, hk, rfl, ⟨X, hX, HOX⟩, HCX⟩ := hrel
    have HK := Lib.hid hk
    clear hk
    by_cases hlt : j < pa
    · obtain ⟨g3, cap, e, hgl3, hcells⟩ := ownsRow_at HOX.out (by omega)
      injection e with e1 e2 e3
      subst e1 e3
      obtain ⟨i0', i1', i2'⟩ := insCells_get X j (by omega)
      have q0 := hcells _ _ i0'
      have q1 := hcells _ _ i1'
      have q2 := hcells _ _ i2'
      have hjc : pa ≤ ca := by
        rcases HOX.out.2 with ⟨e, _⟩ | ⟨_, _, _, e, _, _, h, _⟩
        · cases e
        · injection e with _ _ e; omega
      have hfz : ∀ i, wr.frozen? ⟨g3, i, none⟩ = false := fun i => by
        rcases HOX.out.2 with ⟨e, _⟩ | ⟨g', _, _, e, _, hh, _⟩
        · cases e
        · injection e with e _ _
          injection e with e
          injection e with e
          subst e
          exact frozen_of_block hh _
      have hf0 := hfz (j * 3)
      have hf1 := hfz (j * 3 + 1)
      have hf2 := hfz (j * 3 + 2)
      have hset := ownsRow_set (ownsRow_set (ownsRow_set HOX.out (j * 3) (by omega) (.int .i64 77)) (j * 3 + 1) (by omega) (.int .i64 0)) (j * 3 + 2) (by omega) (.int .i64 0)
      have hput := insCells_put X j X[j] ⟨77, 0, 0⟩ (List.getElem?_eq_getElem (by omega))
      have HRN : Hid (World.ownsRow (((wr.setCell ⟨g3, j * 3, none⟩ (.int .i64 77)).setCell ⟨g3, j * 3 + 1, none⟩ (.int .i64 0)).setCell ⟨g3, j * 3 + 2, none⟩ (.int .i64 0)) 0 39 3 (.slice (some ⟨g3, 0, none⟩) pa ca) pa (insCells (X.set j ⟨77, 0, 0⟩))) := Lib.hid (by rw [hput]; exact hset)
      have HCN : Hid (Chg (fun k => (Value.slice (some ⟨g3, 0, none⟩) pa ca).ownBlock = some k) w7 (((wr.setCell ⟨g3, j * 3, none⟩ (.int .i64 77)).setCell ⟨g3, j * 3 + 1, none⟩ (.int .i64 0)).setCell ⟨g3, j * 3 + 2, none⟩ (.int .i64 0))) := Lib.hid (((HCX.out.setCell (p := ⟨g3, j * 3, none⟩) (fun _ => rfl) _).setCell (p := ⟨g3, j * 3 + 1, none⟩) (fun _ => rfl) _).setCell (p := ⟨g3, j * 3 + 2, none⟩) (fun _ => rfl) _)
      clear hset hput hfz hcells i0' i1' i2' e2
      go_wp2_with fail
      go_roundg (pa - (j + 1))
      case measure => have := HK.out; omega
      case rel => exact ⟨j + 1, by omega, rfl, by go_num, ⟨X.set j ⟨77, 0, 0⟩, by rw [List.length_set]; exact hX, HRN⟩, HCN⟩
    · clear HOX
      obtain ⟨w8, hw8⟩ : ∃ w8 : World, w8 = wr := ⟨_, rfl⟩
      rw [← hw8] at HCX ⊢
      clear hw8
      have HC8 := HCX
      have HB8 : Hid (Below W.heap.size W w8) := Lib.hid (HB7.out.trans (HC8.out.below (B := W.heap.size) (fun k hk => Nat.le_trans HB5.out.size (HNa.out k hk)) HB7.out.size))
      have HOb8 : Hid (w8.ownsRow 0 39 3 (.slice Ab pb cb) pb (insCells (foldv L))) := Lib.hid (ownsRow_kept HOb.out HC8.out (fun k hk e => by have h1 := HNb.out k hk; have h2 := HNal.out k e; omega))
      clear HCX
      go_wp2_with fail
      go_loopg [12] pb (fun kk v wr => ∃ j : Nat, j ≤ pb ∧ kk = pb - j ∧ v = .int .i64 j ∧ (∃ X : List InsR, X.length = pb ∧ Hid (wr.ownsRow 0 39 3 (.slice Ab pb cb) pb (insCells X))) ∧ Hid (Chg (fun k => (Value.slice Ab pb cb).ownBlock = some k) w8 wr))
      case atStart => exact ⟨0, by omega, rfl, rfl, ⟨foldv L, HPB.out.symm, HOb8⟩, Lib.hid (Chg.refl _ _)⟩
      case round =>
        obtain ⟨j, hj, hk, rfl, ⟨X, hX, HOX⟩, HCX⟩ := hrel
        have HK := Lib.hid hk
        clear hk
        by_cases hlt : j < pb
        · obtain ⟨g3, cap, e, hgl3, hcells⟩ := ownsRow_at HOX.out (by omega)
          injection e with e1 e2 e3
          subst e1 e3
          obtain ⟨i0', i1', i2'⟩ := insCells_get X j (by omega)
          have q0 := hcells _ _ i0'
          have q1 := hcells _ _ i1'
          have q2 := hcells _ _ i2'
          have hjc : pb ≤ cb := by
            rcases HOX.out.2 with ⟨e, _⟩ | ⟨_, _, _, e, _, _, h, _⟩
            · cases e
            · injection e with _ _ e; omega
          have hfz : ∀ i, wr.frozen? ⟨g3, i, none⟩ = false := fun i => by
            rcases HOX.out.2 with ⟨e, _⟩ | ⟨g', _, _, e, _, hh, _⟩
            · cases e
            · injection e with e _ _
              injection e with e
              injection e with e
              subst e
              exact frozen_of_block hh _
          have hf0 := hfz (j * 3)
          have hf1 := hfz (j * 3 + 1)
          have hf2 := hfz (j * 3 + 2)
          have hset := ownsRow_set (ownsRow_set (ownsRow_set HOX.out (j * 3) (by omega) (.int .i64 78)) (j * 3 + 1) (by omega) (.int .i64 0)) (j * 3 + 2) (by omega) (.int .i64 0)
          have hput := insCells_put X j X[j] ⟨78, 0, 0⟩ (List.getElem?_eq_getElem (by omega))
          have HRN : Hid (World.ownsRow (((wr.setCell ⟨g3, j * 3, none⟩ (.int .i64 78)).setCell ⟨g3, j * 3 + 1, none⟩ (.int .i64 0)).setCell ⟨g3, j * 3 + 2, none⟩ (.int .i64 0)) 0 39 3 (.slice (some ⟨g3, 0, none⟩) pb cb) pb (insCells (X.set j ⟨78, 0, 0⟩))) := Lib.hid (by rw [hput]; exact hset)
          have HCN : Hid (Chg (fun k => (Value.slice (some ⟨g3, 0, none⟩) pb cb).ownBlock = some k) w8 (((wr.setCell ⟨g3, j * 3, none⟩ (.int .i64 78)).setCell ⟨g3, j * 3 + 1, none⟩ (.int .i64 0)).setCell ⟨g3, j * 3 + 2, none⟩ (.int .i64 0))) := Lib.hid (((HCX.out.setCell (p := ⟨g3, j * 3, none⟩) (fun _ => rfl) _).setCell (p := ⟨g3, j * 3 + 1, none⟩) (fun _ => rfl) _).setCell (p := ⟨g3, j * 3 + 2, none⟩) (fun _ => rfl) _)
          clear hset hput hfz hcells i0' i1' i2' e2
          go_wp2_with fail
          go_roundg (pb - (j + 1))
          case measure => have := HK.out; omega
          case rel => exact ⟨j + 1, by omega, rfl, by go_num, ⟨X.set j ⟨78, 0, 0⟩, by rw [List.length_set]; exact hX, HRN⟩, HCN⟩
        · clear HOX
          have HW9 : Hid (Below W.heap.size W wr) := Lib.hid (HB8.out.trans (HCX.out.below (B := W.heap.size) (fun k hk => Nat.le_trans HB6.out.size (HNb.out k hk)) HB8.out.size))
          have hcx : Chg (fun k => w5.heap.size ≤ k) w7 wr := (HC8.out.mono (T := fun k => w5.heap.size ≤ k) (fun k _ e => HNa.out k e)).then (HCX.out.mono (fun k _ e => Nat.le_trans H56.out.size (HNb.out k e)))
          have hPl5 : P < w5.heap.size := lt_of_heap HP5.out
          have hQl5 : Q < w5.heap.size := lt_of_heap HQ5.out
          have hPf := hcx.heap HP7.out (fun e => by omega)
          have hQf := hcx.heap HQ7.out (fun e => by omega)
          have hLf := ownsRow_kept HOL7.out hcx (fun k hk e => by have := ownsRow_lt HOL5.out k hk; omega)
          have hRf := ownsRow_kept HO47.out hcx (fun k hk e => by have := ownsRow_lt HO45.out k hk; omega)
          have p4 := cell_of_block hPf 4
          have q4 := cell_of_block hQf 4
          simp at p4 q4
          have CZ : Hid (Calls Tryd.prog 7 #[.slice A2 m c2, .slice A4 m c4] wr fun e w' => e = .returned (.bool true) ∧ Below wr.heap.size wr w') := Lib.hid (by
            have h := same_any (w := wr) (v1 := .slice A2 m c2) (v2 := .slice A4 m c4) (xs := L) (ys := L) (by rw [HLL.out]; exact Src.of_row hLf) (by rw [HLL.out]; exact Src.of_row hRf) (by rw [HLL.out]; omega) (by rw [HLL.out]; omega)
            rw [decide_eq_true rfl] at h
            exact h)
          clear hcx hPf hQf hLf hRf
          go_wp2_with fail
          refine CZ.out.mono ?_; rintro e w9 ⟨rfl, hb9⟩
          have HB9 := Lib.hid (bel_trans HW9.out hb9)
          clear hb9
          go_wp2_with fail
          go_ret
          exact ⟨rfl, HB9.out⟩
end Go.Proofs.YtpjpndndpcebcaaDoor
