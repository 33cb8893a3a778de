/- CacheBounds: the walk of the law. -/
import Derived.Test.YthmjmggeihonnaaCacheTwo
import Derived.Deep.LoopGhost
import Derived.Deep.CutRange
import Derived.Deep.CutBlock
namespace Go.Proofs.Ythmjmggeihonnaa
set_option linter.unusedVariables false
set_option linter.unusedSimpArgs false
open Go.RowKit Go.Deep

theorem putv_cases (cap : Int) (l : List (Int × List InsR)) (fn : Int) (body : List InsR) : ∃ front : List (Int × List InsR), getl front fn = none ∧ ((getl l fn).isSome = true ∧ putv cap l fn body = (0, false, front ++ [(fn, body)]) ∨ (getl l fn).isSome = false ∧ (l.length : Int) = cap ∧ putv cap l fn body = ((l.map Prod.fst).headD 0, true, front ++ [(fn, body)]) ∨ (getl l fn).isSome = false ∧ ¬ (l.length : Int) = cap ∧ putv cap l fn body = (0, false, front ++ [(fn, body)])) := by
  by_cases h1 : (getl l fn).isSome = true
  · exact ⟨l.filter (fun e => e.1 != fn), by rw [getl_filter, if_pos rfl], .inl ⟨h1, by unfold putv; rw [if_pos h1]⟩⟩
  · have h1' : getl l fn = none := by simpa using h1
    by_cases h2 : (l.length : Int) = cap
    · refine ⟨l.filter (fun e => e.1 != (l.map Prod.fst).headD 0), ?_, .inr (.inl ⟨by simpa using h1, h2, by unfold putv; rw [if_neg h1, if_pos h2]⟩)⟩
      rw [getl_filter]
      split
      · rfl
      · exact h1'
    · exact ⟨l, h1', .inr (.inr ⟨by simpa using h1, h2, by unfold putv; rw [if_neg h1, if_neg h2]⟩)⟩
theorem getl_snoc {front : List (Int × List InsR)} {fn : Int} (h : getl front fn = none) (body : List InsR) : getl (front ++ [(fn, body)]) fn = some body := by
  unfold getl at h ⊢
  rw [Option.map_eq_none_iff] at h
  rw [List.find?_append, h]
  simp
def BdRel (w0 : World) (c len : Nat) (cap : Int) (k : Nat) (i : Value) (wr : World) : Prop :=
  ∃ (j : Nat), j ≤ len ∧ j ≤ 150 ∧ k = 150 - j ∧ i = .int .i64 j ∧ ∃ (l : List (Int × List InsR)) (n : Nat), n ≤ j ∧ CB w0 wr (fun _ => False) c cap n l

set_option maxHeartbeats 16000000 in
set_option maxRecDepth 100000 in
theorem bounds_core (p m1 q : Int) (hc0 : clampc p = q) (hm1 : (if p < 1 then 1 else p) = m1) (hm2 : (if 32 < m1 then 32 else m1) = q) (h1 : 1 ≤ q) (h32 : q ≤ 32) (A : Option Addr) (cp : Nat) (ls : List CStep) (w : World) (hr : rdStep.C w A ls) (hl : ls.length * 40 ≤ 140737488351232) :
    Calls Try.prog 4 #[.int .i64 p, .slice A ls.length cp] w fun e w' => e = .returned (.bool true) ∧ Below w.heap.size w w' := by
  suffices hs : ∀ w0, w0 = w → ∀ len, len = ls.length → Calls Try.prog 4 #[.int .i64 p, .slice A len cp] w fun e w' => e = .returned (.bool true) ∧ Below w0.heap.size w0 w' from hs w rfl _ rfl
  intro w0 hw0 len hlen
  have HR := Lib.hid hr
  have HW := Lib.hid hw0
  have HL := Lib.hid hlen
  have hlm : len ≤ 9223372036854775807 := by omega
  clear hr hw0 hl hlen
  have HC := Lib.hid hc0
  clear hc0
  go_enter Try.func4, Try.ntmps4
  go_wp2_with fail
  refine (shown_any _).mono ?_; rintro e w1 ⟨rfl, hb1⟩
  have HB1 : Hid (Below w0.heap.size w0 w1) := by rw [HW.out]; exact hb1
  clear hb1
  go_wp2_with fail
  refine (CB.new HB1.out p q HC.out).mono ?_; rintro e w2 ⟨c, rfl, h2⟩
  go_wp2_with fail
  go_loopg [8] 150 (fun k i wr => BdRel w0 c len q k i wr)
  case atStart => exact ⟨0, by omega, by omega, rfl, rfl, [], 0, by omega, h2⟩
  case round =>
    clear h2
    obtain ⟨j, hj1, hj2, hk, rfl, l, n, hn, h2⟩ := hrel
    have HK := Lib.hid hk
    clear hk
    by_cases hlt : j < len
    · by_cases h100 : j < 150
      · have h100I : (j : Int) < 150 := by omega
        obtain ⟨b, off, s, A2, c2, rfl, hs, hbl, wf0, hfw, hbd, htm, hc⟩ := cstep_cells HR.out j (by rw [← HL.out]; exact hlt)
        obtain ⟨p0, p1, p2⟩ := hc w0 wr HW.out h2.bel
        obtain ⟨kd, fn, body⟩ := s
        simp only at p0 p1 p2 hfw hbd htm
        clear hc hs wf0 htm hbd
        obtain ⟨bl, hbl2⟩ : ∃ bl, bl = body.length := ⟨_, rfl⟩
        rw [← hbl2] at p2
        clear hbl2
        have hca : Chg (fun _ => False) wr (wr.alloc (.cells #[.int .i64 kd, .int .i64 fn, .slice A2 bl c2] 32)) := (Chg.refl _ _).alloc _
        have h3 := h2.other hca
        have hsb : (wr.alloc (.cells #[.int .i64 kd, .int .i64 fn, .slice A2 bl c2] 32)).heap[wr.heap.size]? = some (.cells #[.int .i64 kd, .int .i64 fn, .slice A2 bl c2] 32 (0, 0)) := heap_new _ _
        obtain ⟨keys, hkeys⟩ : ∃ keys, l.map Prod.fst = keys := ⟨_, rfl⟩
        obtain ⟨r, hr⟩ : ∃ r, keys.length = r := ⟨_, rfl⟩
        have HKY := Lib.hid (And.intro hkeys hr)
        clear hkeys hr
        go_wp2_with fail
        have hcapk := h3.capok
        have hr32 : r ≤ 32 := by have := HKY.out; rw [← this.2, ← this.1, List.length_map]; omega
        refine (h3.held keys HKY.out.1).mono ?_; rintro e w4 ⟨Aw, cpw, rfl, _, tw, h4, hc4⟩
        rw [HKY.out.2] at tw ⊢
        have hsb4 := hc4.heap hsb (fun x => x)
        clear h3 hsb hc4 h2 p0 p1 p2
        have SC : ∀ wx : World, wx.heap[wr.heap.size]? = some (.cells #[.int .i64 kd, .int .i64 fn, .slice A2 bl c2] 32 (0, 0)) → wx.cell? ⟨wr.heap.size, 0, none⟩ = some (.int .i64 kd) ∧ wx.cell? ⟨wr.heap.size, 1, none⟩ = some (.int .i64 fn) :=
          fun wx hx => ⟨cell_of_block hx 0, cell_of_block hx 1⟩
        have SC := Lib.hid SC
        obtain ⟨e0, e1⟩ := SC.out _ hsb4
        go_upto_block 2 with fail
        go_cut [11, 12, 13, 14, 15, 16, 17, 18, 19] from 43 to 185 (fun a1 a2 a3 a4 a5 a6 a7 a8 a9 wx => ∃ (l' : List (Int × List InsR)) (n' : Nat), n' ≤ j + 1 ∧ CB w0 wx (fun _ => False) c q n' l')
        case first =>
          go_wp2_with fail
          -- KINDS
          -- KINDS
          iterate 3
            · obtain ⟨front, hfr, hcases⟩ := putv_cases q l fn (oneR j)
              obtain ⟨hd, hhd⟩ : ∃ hd, hd = (l.map Prod.fst).headD 0 := ⟨_, rfl⟩
              rw [← hhd] at hcases
              have hlr : (l.length : Int) = r := by have := HKY.out; rw [← this.2, ← this.1, List.length_map]
              rw [hlr] at hcases
              have hk0 : 0 < r → keys[0]? = some hd := fun h0 => by
                have h1 := HKY.out.1
                cases hl : l with
                | nil => rw [hl] at hlr; simp at hlr; omega
                | cons a b => rw [← h1, hhd, hl]; rfl
              have HFR := Lib.hid hfr
              have HK0 := Lib.hid hk0
              have HSB := Lib.hid hsb4
              clear hfr hhd hlr hk0 hsb4
              rcases hcases with ⟨hg, hp⟩ | ⟨hg, hrq, hp⟩ | ⟨hg, hrq, hp⟩
              · as_aux_lemma =>
                  have HG : Hid ((getl l fn).isSome = true ∧ (getl l fn).getD [] = (getl l fn).getD []) := Lib.hid ⟨hg, rfl⟩
                  have HP := Lib.hid hp
                  clear hg hp
                  refine (h4.get fn hfw true _ HG.out).mono ?_; rintro e w5 ⟨A5, cp5, rfl, _, _, h5, hc5⟩
                  have hsb5 := hc5.heap HSB.out (fun x => x)
                  replace tw := tw.keptO hc5
                  clear h4 hc5 e0 e1
                  generalize hXd : Old _ w4 w5 = XX at h5 tw
                  have HXB : Hid (XX wr.heap.size) := Lib.hid (by rw [← hXd]; exact .inl (.inl (.inr ⟨Nat.le_refl _, by simp⟩)))
                  clear hXd
                  go_wp2_with fail
                  have hS0 : w5.drew.heap[wr.heap.size]? = some (.cells #[.int .i64 kd, .int .i64 fn, .slice A2 bl c2] 32 (0, 0)) := hsb5
                  refine wp_region_ord (S := fun w' => w'.heap[wr.heap.size]? = some (.cells #[.int .i64 kd, .int .i64 fn, .slice A2 bl c2] 32 (0, 0))) (N := fun i => true) (by kernel_rfl) [(0, true), (1, true), (2, true), (3, true), (4, false), (5, false), (6, true), (7, true), (8, true), (9, true), (10, true)] (by kernel_rfl) ?_
                  iterate 4 (refine ord_look rfl hS0 rfl (by intro w hS; obtain ⟨hS0, hS1⟩ := SC.out w hS; go_simp; with_reducible rfl) (fun c a w h => h) ?_; simp only [Act.put, List.setIfInBounds_toArray, List.set_cons_succ, List.set_cons_zero])
                  refine ord_act rfl rfl (fun K hK => ?_)
                  refine wp_call 21 _ _ Try.func21 rfl (by kernel_rfl) _ _ rfl #[.int .i64 (j : Int)] (by simp [Act.eval]) (R := fun v w1 => ∃ g cp, v = .slice (some ⟨g, 0, none⟩) 2 cp ∧ Tmp w0 w1 (Old XX w5.drew w1) (.slice (some ⟨g, 0, none⟩) 2 cp) (oneR j).length (insCells (oneR j)) ∧ CB w0 w1 (Old XX w5.drew w1) c q n l ∧ Chg (fun _ => False) w5.drew w1) (calls_ret ((h5.drewN 1).one (j : Int)) (by rintro e w1 ⟨g, cp, rfl, h⟩; exact ⟨_, rfl, g, cp, rfl, h⟩)) ?_
                  rintro v w6 ⟨g6, cp6, rfl, t6, h6, hc6⟩
                  have hsb6 := hc6.heap hS0 (fun x => x)
                  replace tw := (tw.drewN 1).keptO hc6
                  refine hK _ _ ⟨fun _ => hsb6, ?_⟩
                  clear hK K h5 hc6 hsb5
                  simp only [Act.put, List.setIfInBounds_toArray, List.set_cons_succ, List.set_cons_zero]
                  refine ord_act rfl rfl (fun K hK => ?_)
                  refine wp_call 13 _ _ Try.func13 rfl (by kernel_rfl) _ _ rfl #[.pointer (some ⟨c, 0, none⟩), .int .i64 fn, .slice (some ⟨g6, 0, none⟩) 2 cp6] (by simp [Act.eval]) (R := fun v w2 => v = .tuple #[.int .i64 0, .bool false] ∧ CB w0 w2 (Old XX w5.drew w6) c q (n + 1) (front ++ [(fn, oneR j)]) ∧ Chg (fun k => w0.heap.size ≤ k ∧ ¬ Old XX w5.drew w6 k) w6 w2) (calls_ret (h6.put fn hfw _ (oneR j) t6 (by simp [oneR]) (by omega) 0 false _ HP.out) (by rintro e w1 ⟨rfl, h⟩; exact ⟨_, rfl, rfl, h⟩)) ?_
                  rintro v w7 ⟨rfl, h7, hc7⟩
                  have hsb7 := hc7.heap hsb6 (fun x => x.2 (.inl HXB.out))
                  replace tw := tw.keptC hc7
                  refine hK _ _ ⟨fun _ => hsb7, ?_⟩
                  clear hK K h6 hc7 hsb6 t6 hS0
                  simp only [Act.put, List.setIfInBounds_toArray, List.set_cons_succ, List.set_cons_zero]
                  iterate 5 (refine ord_look rfl hsb7 rfl (by intro w hS; obtain ⟨hS0, hS1⟩ := SC.out w hS; go_simp; with_reducible rfl) (fun c a w h => h) ?_; simp only [Act.put, List.setIfInBounds_toArray, List.set_cons_succ, List.set_cons_zero])
                  refine ord_end ?_

                  obtain ⟨e0, e1⟩ := SC.out _ hsb7
                  go_wp2_with fail
                  have hgs : (getl (front ++ [(fn, oneR j)]) fn).isSome = true ∧ (getl (front ++ [(fn, oneR j)]) fn).getD [] = oneR j := by rw [getl_snoc HFR.out]; exact ⟨rfl, rfl⟩
                  refine (h7.get fn hfw true (oneR j) hgs).mono ?_; rintro e w8 ⟨A8, cp8, rfl, _, t8, h8, hc8⟩
                  have hsb8 := hc8.heap hsb7 (fun x => x)
                  clear h7 hc8 hsb7 tw e0 e1
                  go_wp2_with fail
                  obtain ⟨kn, hkn⟩ : ∃ kn, kn = front.length := ⟨_, rfl⟩
                  have hxl : ((front ++ [(fn, oneR j)]).map Prod.fst).length = kn + 1 := by simp [hkn]
                  refine (h8.held _ rfl).mono ?_; rintro e w9 ⟨A9, cp9, rfl, _, t9, h9, hc9⟩
                  rw [hxl] at t9 ⊢
                  have hsb9 := hc9.heap hsb8 (fun x => x)
                  replace t8 := t8.keptO hc9
                  clear h8 hc9 hsb8
                  have hkn32 : kn ≤ 31 := by have := h9.capok; simp at this; omega
                  have hlast : ∃ b off, A9 = some ⟨b, off, none⟩ ∧ (∀ k, k = b → w0.heap.size ≤ 0 → True) := by
                    rcases t9.src with ⟨_, h0, _⟩ | ⟨b, off, cap, e, _, _, _, hc⟩
                    · omega
                    · injection e with e1 e2 e3
                      exact ⟨b, off, e1, fun _ _ _ => trivial⟩
                  obtain ⟨b9, o9, rfl, _⟩ := hlast
                  have hlc : ∀ wx X, Tmp w0 wx X (.slice (some ⟨b9, o9, none⟩) (kn + 1) cp9) (kn + 1) (ints ((front ++ [(fn, oneR j)]).map Prod.fst)) → wx.cell? ⟨b9, o9 + kn, none⟩ = some (.int .i64 fn) := fun wx X tt => by
                    rcases tt.src with ⟨_, h0, _⟩ | ⟨b, off, cap, e, _, _, _, hc⟩
                    · omega
                    · injection e with e1 e2 e3
                      injection e1 with e1
                      injection e1 with e1 e4
                      subst e1 e4
                      exact hc kn _ (by unfold ints; rw [List.getElem?_map, List.getElem?_map]; simp [hkn])
                  have HLC := Lib.hid hlc
                  have HKN := Lib.hid (And.intro hkn hxl)
                  clear hlc hkn hxl
                  go_wp2_with fail
                  have hlc9 := HLC.out _ _ t9
                  have SC9 : Hid (∀ wx : World, (wx.heap[wr.heap.size]? = some (.cells #[.int .i64 kd, .int .i64 fn, .slice A2 bl c2] 32 (0, 0)) ∧ wx.cell? ⟨b9, o9 + kn, none⟩ = some (.int .i64 fn)) → wx.cell? ⟨wr.heap.size, 1, none⟩ = some (.int .i64 fn) ∧ wx.cell? ⟨b9, o9 + kn, none⟩ = some (.int .i64 fn)) := Lib.hid (fun wx hx => ⟨(SC.out _ hx.1).2, hx.2⟩)
                  have hS0 : w9.drew.heap[wr.heap.size]? = some (.cells #[.int .i64 kd, .int .i64 fn, .slice A2 bl c2] 32 (0, 0)) ∧ w9.drew.cell? ⟨b9, o9 + kn, none⟩ = some (.int .i64 fn) := ⟨hsb9, hlc9⟩
                  clear hlc9
                  have ewk : IntKind.i64.wrap (kn : Int) = kn := by rw [IntKind.wrap_i64]; omega
                  have eklt : (kn : Int) < (kn : Int) + 1 := by omega
                  refine wp_region_ord (S := fun w' => w'.heap[wr.heap.size]? = some (.cells #[.int .i64 kd, .int .i64 fn, .slice A2 bl c2] 32 (0, 0)) ∧ w'.cell? ⟨b9, o9 + kn, none⟩ = some (.int .i64 fn)) (N := fun i => true) (by kernel_rfl) [(0, true), (1, true), (2, true), (3, true), (4, true), (5, false), (6, false), (7, true), (8, true), (9, true), (10, true), (11, true), (12, true), (13, true), (14, true), (15, true), (16, true), (17, true), (18, true), (19, true)] (by kernel_rfl) ?_
                  iterate 5 (refine ord_look rfl hS0 rfl (by intro w hS; obtain ⟨hS0, hS1⟩ := SC9.out w hS; go_simp; with_reducible rfl) (fun c a w h => h) ?_; simp only [Act.put, List.setIfInBounds_toArray, List.set_cons_succ, List.set_cons_zero])
                  refine ord_act rfl rfl (fun K hK => ?_)
                  refine wp_call 21 _ _ Try.func21 rfl (by kernel_rfl) _ _ rfl #[.int .i64 (j : Int)] (by simp [Act.eval]) (R := fun v w1 => ∃ g cp X, v = .slice (some ⟨g, 0, none⟩) 2 cp ∧ Tmp w0 w1 X (.slice (some ⟨g, 0, none⟩) 2 cp) (oneR j).length (insCells (oneR j)) ∧ CB w0 w1 X c q (n + 1) (front ++ [(fn, oneR j)]) ∧ Tmp w0 w1 X (.slice A8 (oneR j).length cp8) (oneR j).length (insCells (oneR j)) ∧ Chg (fun _ => False) w9.drew w1) (calls_ret ((h9.drewN 1).one (j : Int)) (by rintro e w1 ⟨g, cp, rfl, h1, h2, h3⟩; exact ⟨_, rfl, g, cp, _, rfl, h1, h2, (t8.drewN 1).keptO h3, h3⟩)) ?_
                  rintro v wa ⟨ga, cpa, Xa, rfl, ta, ha, t8a, hca⟩
                  have hSa : wa.heap[wr.heap.size]? = some (.cells #[.int .i64 kd, .int .i64 fn, .slice A2 bl c2] 32 (0, 0)) ∧ wa.cell? ⟨b9, o9 + kn, none⟩ = some (.int .i64 fn) := ⟨hca.heap hS0.1 (fun x => x), hca.cell hS0.2 (fun x => x)⟩
                  refine hK _ _ ⟨fun _ => hSa, ?_⟩
                  clear hK K h9 hca hsb9 hS0 t9 t8
                  simp only [Act.put, List.setIfInBounds_toArray, List.set_cons_succ, List.set_cons_zero]
                  refine ord_act rfl rfl (fun K hK => ?_)
                  refine wp_call 22 _ _ Try.func22 rfl (by kernel_rfl) _ _ rfl #[.slice A8 (oneR j).length cp8, .slice (some ⟨ga, 0, none⟩) 2 cpa] (by simp [Act.eval]) (R := fun v w1 => v = .bool true ∧ ∃ m, w1 = wa.drewN m) (calls_ret (ha.alike t8a ta rfl rfl true (by simp)) (by rintro e w1 ⟨rfl, h⟩; exact ⟨_, rfl, rfl, h⟩)) ?_
                  rintro v wb ⟨rfl, ma, rfl⟩
                  have hSb : (wa.drewN ma).heap[wr.heap.size]? = some (.cells #[.int .i64 kd, .int .i64 fn, .slice A2 bl c2] 32 (0, 0)) ∧ (wa.drewN ma).cell? ⟨b9, o9 + kn, none⟩ = some (.int .i64 fn) := hSa
                  refine hK _ _ ⟨fun _ => hSb, ?_⟩
                  clear hK K
                  have hz := ha.drewN ma
                  clear ta ha t8a hSa
                  simp only [Act.put, List.setIfInBounds_toArray, List.set_cons_succ, List.set_cons_zero]
                  iterate 13 (refine ord_look rfl hSb rfl (by intro w hS; obtain ⟨hS0, hS1⟩ := SC9.out w hS; go_simp; with_reducible rfl) (fun c a w h => h) ?_; simp only [Act.put, List.setIfInBounds_toArray, List.set_cons_succ, List.set_cons_zero])
                  refine ord_end ?_
                  generalize wa.drewN ma = wz at *
                  go_wp2_with fail
                  go_meet
                  case rel => exact ⟨_, n + 1, by omega, hz.free⟩
              · as_aux_lemma =>
                  have HG : Hid ((getl l fn).isSome = false ∧ (getl l fn).getD [] = (getl l fn).getD []) := Lib.hid ⟨hg, rfl⟩
                  have HP := Lib.hid hp
                  clear hg hp
                  refine (h4.get fn hfw false _ HG.out).mono ?_; rintro e w5 ⟨A5, cp5, rfl, _, _, h5, hc5⟩
                  have hsb5 := hc5.heap HSB.out (fun x => x)
                  replace tw := tw.keptO hc5
                  clear h4 hc5 e0 e1
                  generalize hXd : Old _ w4 w5 = XX at h5 tw
                  have HXB : Hid (XX wr.heap.size) := Lib.hid (by rw [← hXd]; exact .inl (.inl (.inr ⟨Nat.le_refl _, by simp⟩)))
                  clear hXd
                  go_wp2_with fail
                  have hS0 : w5.drew.heap[wr.heap.size]? = some (.cells #[.int .i64 kd, .int .i64 fn, .slice A2 bl c2] 32 (0, 0)) := hsb5
                  refine wp_region_ord (S := fun w' => w'.heap[wr.heap.size]? = some (.cells #[.int .i64 kd, .int .i64 fn, .slice A2 bl c2] 32 (0, 0))) (N := fun i => true) (by kernel_rfl) [(0, true), (1, true), (2, true), (3, true), (4, false), (5, false), (6, true), (7, true), (8, true), (9, true), (10, true)] (by kernel_rfl) ?_
                  iterate 4 (refine ord_look rfl hS0 rfl (by intro w hS; obtain ⟨hS0, hS1⟩ := SC.out w hS; go_simp; with_reducible rfl) (fun c a w h => h) ?_; simp only [Act.put, List.setIfInBounds_toArray, List.set_cons_succ, List.set_cons_zero])
                  refine ord_act rfl rfl (fun K hK => ?_)
                  refine wp_call 21 _ _ Try.func21 rfl (by kernel_rfl) _ _ rfl #[.int .i64 (j : Int)] (by simp [Act.eval]) (R := fun v w1 => ∃ g cp, v = .slice (some ⟨g, 0, none⟩) 2 cp ∧ Tmp w0 w1 (Old XX w5.drew w1) (.slice (some ⟨g, 0, none⟩) 2 cp) (oneR j).length (insCells (oneR j)) ∧ CB w0 w1 (Old XX w5.drew w1) c q n l ∧ Chg (fun _ => False) w5.drew w1) (calls_ret ((h5.drewN 1).one (j : Int)) (by rintro e w1 ⟨g, cp, rfl, h⟩; exact ⟨_, rfl, g, cp, rfl, h⟩)) ?_
                  rintro v w6 ⟨g6, cp6, rfl, t6, h6, hc6⟩
                  have hsb6 := hc6.heap hS0 (fun x => x)
                  replace tw := (tw.drewN 1).keptO hc6
                  refine hK _ _ ⟨fun _ => hsb6, ?_⟩
                  clear hK K h5 hc6 hsb5
                  simp only [Act.put, List.setIfInBounds_toArray, List.set_cons_succ, List.set_cons_zero]
                  refine ord_act rfl rfl (fun K hK => ?_)
                  refine wp_call 13 _ _ Try.func13 rfl (by kernel_rfl) _ _ rfl #[.pointer (some ⟨c, 0, none⟩), .int .i64 fn, .slice (some ⟨g6, 0, none⟩) 2 cp6] (by simp [Act.eval]) (R := fun v w2 => v = .tuple #[.int .i64 hd, .bool true] ∧ CB w0 w2 (Old XX w5.drew w6) c q (n + 1) (front ++ [(fn, oneR j)]) ∧ Chg (fun k => w0.heap.size ≤ k ∧ ¬ Old XX w5.drew w6 k) w6 w2) (calls_ret (h6.put fn hfw _ (oneR j) t6 (by simp [oneR]) (by omega) hd true _ HP.out) (by rintro e w1 ⟨rfl, h⟩; exact ⟨_, rfl, rfl, h⟩)) ?_
                  rintro v w7 ⟨rfl, h7, hc7⟩
                  have hsb7 := hc7.heap hsb6 (fun x => x.2 (.inl HXB.out))
                  replace tw := tw.keptC hc7
                  refine hK _ _ ⟨fun _ => hsb7, ?_⟩
                  clear hK K h6 hc7 hsb6 t6 hS0
                  simp only [Act.put, List.setIfInBounds_toArray, List.set_cons_succ, List.set_cons_zero]
                  iterate 5 (refine ord_look rfl hsb7 rfl (by intro w hS; obtain ⟨hS0, hS1⟩ := SC.out w hS; go_simp; with_reducible rfl) (fun c a w h => h) ?_; simp only [Act.put, List.setIfInBounds_toArray, List.set_cons_succ, List.set_cons_zero])
                  refine ord_end ?_
                  obtain ⟨bh, oh, rfl, hw0⟩ : ∃ b off, Aw = some ⟨b, off, none⟩ ∧ w7.cell? ⟨b, off, none⟩ = some (.int .i64 hd) := by
                    have h0r : 0 < r := by omega
                    rcases tw.src with ⟨_, h0, _⟩ | ⟨b, off, cap, e, _, _, _, hc⟩
                    · omega
                    · injection e with e1 e2 e3
                      exact ⟨b, off, e1, by have := hc 0 _ (by unfold ints; rw [List.getElem?_map, HK0.out h0r]; rfl); rwa [Nat.add_zero] at this⟩
                  obtain ⟨e0, e1⟩ := SC.out _ hsb7
                  go_wp2_with fail
                  have hgs : (getl (front ++ [(fn, oneR j)]) fn).isSome = true ∧ (getl (front ++ [(fn, oneR j)]) fn).getD [] = oneR j := by rw [getl_snoc HFR.out]; exact ⟨rfl, rfl⟩
                  refine (h7.get fn hfw true (oneR j) hgs).mono ?_; rintro e w8 ⟨A8, cp8, rfl, _, t8, h8, hc8⟩
                  have hsb8 := hc8.heap hsb7 (fun x => x)
                  clear h7 hc8 hsb7 tw e0 e1
                  go_wp2_with fail
                  obtain ⟨kn, hkn⟩ : ∃ kn, kn = front.length := ⟨_, rfl⟩
                  have hxl : ((front ++ [(fn, oneR j)]).map Prod.fst).length = kn + 1 := by simp [hkn]
                  refine (h8.held _ rfl).mono ?_; rintro e w9 ⟨A9, cp9, rfl, _, t9, h9, hc9⟩
                  rw [hxl] at t9 ⊢
                  have hsb9 := hc9.heap hsb8 (fun x => x)
                  replace t8 := t8.keptO hc9
                  clear h8 hc9 hsb8
                  have hkn32 : kn ≤ 31 := by have := h9.capok; simp at this; omega
                  have hlast : ∃ b off, A9 = some ⟨b, off, none⟩ ∧ (∀ k, k = b → w0.heap.size ≤ 0 → True) := by
                    rcases t9.src with ⟨_, h0, _⟩ | ⟨b, off, cap, e, _, _, _, hc⟩
                    · omega
                    · injection e with e1 e2 e3
                      exact ⟨b, off, e1, fun _ _ _ => trivial⟩
                  obtain ⟨b9, o9, rfl, _⟩ := hlast
                  have hlc : ∀ wx X, Tmp w0 wx X (.slice (some ⟨b9, o9, none⟩) (kn + 1) cp9) (kn + 1) (ints ((front ++ [(fn, oneR j)]).map Prod.fst)) → wx.cell? ⟨b9, o9 + kn, none⟩ = some (.int .i64 fn) := fun wx X tt => by
                    rcases tt.src with ⟨_, h0, _⟩ | ⟨b, off, cap, e, _, _, _, hc⟩
                    · omega
                    · injection e with e1 e2 e3
                      injection e1 with e1
                      injection e1 with e1 e4
                      subst e1 e4
                      exact hc kn _ (by unfold ints; rw [List.getElem?_map, List.getElem?_map]; simp [hkn])
                  have HLC := Lib.hid hlc
                  have HKN := Lib.hid (And.intro hkn hxl)
                  clear hlc hkn hxl
                  go_wp2_with fail
                  have hlc9 := HLC.out _ _ t9
                  have SC9 : Hid (∀ wx : World, (wx.heap[wr.heap.size]? = some (.cells #[.int .i64 kd, .int .i64 fn, .slice A2 bl c2] 32 (0, 0)) ∧ wx.cell? ⟨b9, o9 + kn, none⟩ = some (.int .i64 fn)) → wx.cell? ⟨wr.heap.size, 1, none⟩ = some (.int .i64 fn) ∧ wx.cell? ⟨b9, o9 + kn, none⟩ = some (.int .i64 fn)) := Lib.hid (fun wx hx => ⟨(SC.out _ hx.1).2, hx.2⟩)
                  have hS0 : w9.drew.heap[wr.heap.size]? = some (.cells #[.int .i64 kd, .int .i64 fn, .slice A2 bl c2] 32 (0, 0)) ∧ w9.drew.cell? ⟨b9, o9 + kn, none⟩ = some (.int .i64 fn) := ⟨hsb9, hlc9⟩
                  clear hlc9
                  have ewk : IntKind.i64.wrap (kn : Int) = kn := by rw [IntKind.wrap_i64]; omega
                  have eklt : (kn : Int) < (kn : Int) + 1 := by omega
                  refine wp_region_ord (S := fun w' => w'.heap[wr.heap.size]? = some (.cells #[.int .i64 kd, .int .i64 fn, .slice A2 bl c2] 32 (0, 0)) ∧ w'.cell? ⟨b9, o9 + kn, none⟩ = some (.int .i64 fn)) (N := fun i => true) (by kernel_rfl) [(0, true), (1, true), (2, true), (3, true), (4, true), (5, false), (6, false), (7, true), (8, true), (9, true), (10, true), (11, true), (12, true), (13, true), (14, true), (15, true), (16, true), (17, true), (18, true), (19, true)] (by kernel_rfl) ?_
                  iterate 5 (refine ord_look rfl hS0 rfl (by intro w hS; obtain ⟨hS0, hS1⟩ := SC9.out w hS; go_simp; with_reducible rfl) (fun c a w h => h) ?_; simp only [Act.put, List.setIfInBounds_toArray, List.set_cons_succ, List.set_cons_zero])
                  refine ord_act rfl rfl (fun K hK => ?_)
                  refine wp_call 21 _ _ Try.func21 rfl (by kernel_rfl) _ _ rfl #[.int .i64 (j : Int)] (by simp [Act.eval]) (R := fun v w1 => ∃ g cp X, v = .slice (some ⟨g, 0, none⟩) 2 cp ∧ Tmp w0 w1 X (.slice (some ⟨g, 0, none⟩) 2 cp) (oneR j).length (insCells (oneR j)) ∧ CB w0 w1 X c q (n + 1) (front ++ [(fn, oneR j)]) ∧ Tmp w0 w1 X (.slice A8 (oneR j).length cp8) (oneR j).length (insCells (oneR j)) ∧ Chg (fun _ => False) w9.drew w1) (calls_ret ((h9.drewN 1).one (j : Int)) (by rintro e w1 ⟨g, cp, rfl, h1, h2, h3⟩; exact ⟨_, rfl, g, cp, _, rfl, h1, h2, (t8.drewN 1).keptO h3, h3⟩)) ?_
                  rintro v wa ⟨ga, cpa, Xa, rfl, ta, ha, t8a, hca⟩
                  have hSa : wa.heap[wr.heap.size]? = some (.cells #[.int .i64 kd, .int .i64 fn, .slice A2 bl c2] 32 (0, 0)) ∧ wa.cell? ⟨b9, o9 + kn, none⟩ = some (.int .i64 fn) := ⟨hca.heap hS0.1 (fun x => x), hca.cell hS0.2 (fun x => x)⟩
                  refine hK _ _ ⟨fun _ => hSa, ?_⟩
                  clear hK K h9 hca hsb9 hS0 t9 t8
                  simp only [Act.put, List.setIfInBounds_toArray, List.set_cons_succ, List.set_cons_zero]
                  refine ord_act rfl rfl (fun K hK => ?_)
                  refine wp_call 22 _ _ Try.func22 rfl (by kernel_rfl) _ _ rfl #[.slice A8 (oneR j).length cp8, .slice (some ⟨ga, 0, none⟩) 2 cpa] (by simp [Act.eval]) (R := fun v w1 => v = .bool true ∧ ∃ m, w1 = wa.drewN m) (calls_ret (ha.alike t8a ta rfl rfl true (by simp)) (by rintro e w1 ⟨rfl, h⟩; exact ⟨_, rfl, rfl, h⟩)) ?_
                  rintro v wb ⟨rfl, ma, rfl⟩
                  have hSb : (wa.drewN ma).heap[wr.heap.size]? = some (.cells #[.int .i64 kd, .int .i64 fn, .slice A2 bl c2] 32 (0, 0)) ∧ (wa.drewN ma).cell? ⟨b9, o9 + kn, none⟩ = some (.int .i64 fn) := hSa
                  refine hK _ _ ⟨fun _ => hSb, ?_⟩
                  clear hK K
                  have hz := ha.drewN ma
                  clear ta ha t8a hSa
                  simp only [Act.put, List.setIfInBounds_toArray, List.set_cons_succ, List.set_cons_zero]
                  iterate 13 (refine ord_look rfl hSb rfl (by intro w hS; obtain ⟨hS0, hS1⟩ := SC9.out w hS; go_simp; with_reducible rfl) (fun c a w h => h) ?_; simp only [Act.put, List.setIfInBounds_toArray, List.set_cons_succ, List.set_cons_zero])
                  refine ord_end ?_
                  generalize wa.drewN ma = wz at *
                  go_wp2_with fail
                  go_meet
                  case rel => exact ⟨_, n + 1, by omega, hz.free⟩
              · as_aux_lemma =>
                  have HG : Hid ((getl l fn).isSome = false ∧ (getl l fn).getD [] = (getl l fn).getD []) := Lib.hid ⟨hg, rfl⟩
                  have HP := Lib.hid hp
                  clear hg hp
                  refine (h4.get fn hfw false _ HG.out).mono ?_; rintro e w5 ⟨A5, cp5, rfl, _, _, h5, hc5⟩
                  have hsb5 := hc5.heap HSB.out (fun x => x)
                  replace tw := tw.keptO hc5
                  clear h4 hc5 e0 e1
                  generalize hXd : Old _ w4 w5 = XX at h5 tw
                  have HXB : Hid (XX wr.heap.size) := Lib.hid (by rw [← hXd]; exact .inl (.inl (.inr ⟨Nat.le_refl _, by simp⟩)))
                  clear hXd
                  go_wp2_with fail
                  have hS0 : w5.drew.heap[wr.heap.size]? = some (.cells #[.int .i64 kd, .int .i64 fn, .slice A2 bl c2] 32 (0, 0)) := hsb5
                  refine wp_region_ord (S := fun w' => w'.heap[wr.heap.size]? = some (.cells #[.int .i64 kd, .int .i64 fn, .slice A2 bl c2] 32 (0, 0))) (N := fun i => true) (by kernel_rfl) [(0, true), (1, true), (2, true), (3, true), (4, false), (5, false), (6, true), (7, true), (8, true), (9, true), (10, true)] (by kernel_rfl) ?_
                  iterate 4 (refine ord_look rfl hS0 rfl (by intro w hS; obtain ⟨hS0, hS1⟩ := SC.out w hS; go_simp; with_reducible rfl) (fun c a w h => h) ?_; simp only [Act.put, List.setIfInBounds_toArray, List.set_cons_succ, List.set_cons_zero])
                  refine ord_act rfl rfl (fun K hK => ?_)
                  refine wp_call 21 _ _ Try.func21 rfl (by kernel_rfl) _ _ rfl #[.int .i64 (j : Int)] (by simp [Act.eval]) (R := fun v w1 => ∃ g cp, v = .slice (some ⟨g, 0, none⟩) 2 cp ∧ Tmp w0 w1 (Old XX w5.drew w1) (.slice (some ⟨g, 0, none⟩) 2 cp) (oneR j).length (insCells (oneR j)) ∧ CB w0 w1 (Old XX w5.drew w1) c q n l ∧ Chg (fun _ => False) w5.drew w1) (calls_ret ((h5.drewN 1).one (j : Int)) (by rintro e w1 ⟨g, cp, rfl, h⟩; exact ⟨_, rfl, g, cp, rfl, h⟩)) ?_
                  rintro v w6 ⟨g6, cp6, rfl, t6, h6, hc6⟩
                  have hsb6 := hc6.heap hS0 (fun x => x)
                  replace tw := (tw.drewN 1).keptO hc6
                  refine hK _ _ ⟨fun _ => hsb6, ?_⟩
                  clear hK K h5 hc6 hsb5
                  simp only [Act.put, List.setIfInBounds_toArray, List.set_cons_succ, List.set_cons_zero]
                  refine ord_act rfl rfl (fun K hK => ?_)
                  refine wp_call 13 _ _ Try.func13 rfl (by kernel_rfl) _ _ rfl #[.pointer (some ⟨c, 0, none⟩), .int .i64 fn, .slice (some ⟨g6, 0, none⟩) 2 cp6] (by simp [Act.eval]) (R := fun v w2 => v = .tuple #[.int .i64 0, .bool false] ∧ CB w0 w2 (Old XX w5.drew w6) c q (n + 1) (front ++ [(fn, oneR j)]) ∧ Chg (fun k => w0.heap.size ≤ k ∧ ¬ Old XX w5.drew w6 k) w6 w2) (calls_ret (h6.put fn hfw _ (oneR j) t6 (by simp [oneR]) (by omega) 0 false _ HP.out) (by rintro e w1 ⟨rfl, h⟩; exact ⟨_, rfl, rfl, h⟩)) ?_
                  rintro v w7 ⟨rfl, h7, hc7⟩
                  have hsb7 := hc7.heap hsb6 (fun x => x.2 (.inl HXB.out))
                  replace tw := tw.keptC hc7
                  refine hK _ _ ⟨fun _ => hsb7, ?_⟩
                  clear hK K h6 hc7 hsb6 t6 hS0
                  simp only [Act.put, List.setIfInBounds_toArray, List.set_cons_succ, List.set_cons_zero]
                  iterate 5 (refine ord_look rfl hsb7 rfl (by intro w hS; obtain ⟨hS0, hS1⟩ := SC.out w hS; go_simp; with_reducible rfl) (fun c a w h => h) ?_; simp only [Act.put, List.setIfInBounds_toArray, List.set_cons_succ, List.set_cons_zero])
                  refine ord_end ?_

                  obtain ⟨e0, e1⟩ := SC.out _ hsb7
                  go_wp2_with fail
                  have hgs : (getl (front ++ [(fn, oneR j)]) fn).isSome = true ∧ (getl (front ++ [(fn, oneR j)]) fn).getD [] = oneR j := by rw [getl_snoc HFR.out]; exact ⟨rfl, rfl⟩
                  refine (h7.get fn hfw true (oneR j) hgs).mono ?_; rintro e w8 ⟨A8, cp8, rfl, _, t8, h8, hc8⟩
                  have hsb8 := hc8.heap hsb7 (fun x => x)
                  clear h7 hc8 hsb7 tw e0 e1
                  go_wp2_with fail
                  obtain ⟨kn, hkn⟩ : ∃ kn, kn = front.length := ⟨_, rfl⟩
                  have hxl : ((front ++ [(fn, oneR j)]).map Prod.fst).length = kn + 1 := by simp [hkn]
                  refine (h8.held _ rfl).mono ?_; rintro e w9 ⟨A9, cp9, rfl, _, t9, h9, hc9⟩
                  rw [hxl] at t9 ⊢
                  have hsb9 := hc9.heap hsb8 (fun x => x)
                  replace t8 := t8.keptO hc9
                  clear h8 hc9 hsb8
                  have hkn32 : kn ≤ 31 := by have := h9.capok; simp at this; omega
                  have hlast : ∃ b off, A9 = some ⟨b, off, none⟩ ∧ (∀ k, k = b → w0.heap.size ≤ 0 → True) := by
                    rcases t9.src with ⟨_, h0, _⟩ | ⟨b, off, cap, e, _, _, _, hc⟩
                    · omega
                    · injection e with e1 e2 e3
                      exact ⟨b, off, e1, fun _ _ _ => trivial⟩
                  obtain ⟨b9, o9, rfl, _⟩ := hlast
                  have hlc : ∀ wx X, Tmp w0 wx X (.slice (some ⟨b9, o9, none⟩) (kn + 1) cp9) (kn + 1) (ints ((front ++ [(fn, oneR j)]).map Prod.fst)) → wx.cell? ⟨b9, o9 + kn, none⟩ = some (.int .i64 fn) := fun wx X tt => by
                    rcases tt.src with ⟨_, h0, _⟩ | ⟨b, off, cap, e, _, _, _, hc⟩
                    · omega
                    · injection e with e1 e2 e3
                      injection e1 with e1
                      injection e1 with e1 e4
                      subst e1 e4
                      exact hc kn _ (by unfold ints; rw [List.getElem?_map, List.getElem?_map]; simp [hkn])
                  have HLC := Lib.hid hlc
                  have HKN := Lib.hid (And.intro hkn hxl)
                  clear hlc hkn hxl
                  go_wp2_with fail
                  have hlc9 := HLC.out _ _ t9
                  have SC9 : Hid (∀ wx : World, (wx.heap[wr.heap.size]? = some (.cells #[.int .i64 kd, .int .i64 fn, .slice A2 bl c2] 32 (0, 0)) ∧ wx.cell? ⟨b9, o9 + kn, none⟩ = some (.int .i64 fn)) → wx.cell? ⟨wr.heap.size, 1, none⟩ = some (.int .i64 fn) ∧ wx.cell? ⟨b9, o9 + kn, none⟩ = some (.int .i64 fn)) := Lib.hid (fun wx hx => ⟨(SC.out _ hx.1).2, hx.2⟩)
                  have hS0 : w9.drew.heap[wr.heap.size]? = some (.cells #[.int .i64 kd, .int .i64 fn, .slice A2 bl c2] 32 (0, 0)) ∧ w9.drew.cell? ⟨b9, o9 + kn, none⟩ = some (.int .i64 fn) := ⟨hsb9, hlc9⟩
                  clear hlc9
                  have ewk : IntKind.i64.wrap (kn : Int) = kn := by rw [IntKind.wrap_i64]; omega
                  have eklt : (kn : Int) < (kn : Int) + 1 := by omega
                  refine wp_region_ord (S := fun w' => w'.heap[wr.heap.size]? = some (.cells #[.int .i64 kd, .int .i64 fn, .slice A2 bl c2] 32 (0, 0)) ∧ w'.cell? ⟨b9, o9 + kn, none⟩ = some (.int .i64 fn)) (N := fun i => true) (by kernel_rfl) [(0, true), (1, true), (2, true), (3, true), (4, true), (5, false), (6, false), (7, true), (8, true), (9, true), (10, true), (11, true), (12, true), (13, true), (14, true), (15, true), (16, true), (17, true), (18, true), (19, true)] (by kernel_rfl) ?_
                  iterate 5 (refine ord_look rfl hS0 rfl (by intro w hS; obtain ⟨hS0, hS1⟩ := SC9.out w hS; go_simp; with_reducible rfl) (fun c a w h => h) ?_; simp only [Act.put, List.setIfInBounds_toArray, List.set_cons_succ, List.set_cons_zero])
                  refine ord_act rfl rfl (fun K hK => ?_)
                  refine wp_call 21 _ _ Try.func21 rfl (by kernel_rfl) _ _ rfl #[.int .i64 (j : Int)] (by simp [Act.eval]) (R := fun v w1 => ∃ g cp X, v = .slice (some ⟨g, 0, none⟩) 2 cp ∧ Tmp w0 w1 X (.slice (some ⟨g, 0, none⟩) 2 cp) (oneR j).length (insCells (oneR j)) ∧ CB w0 w1 X c q (n + 1) (front ++ [(fn, oneR j)]) ∧ Tmp w0 w1 X (.slice A8 (oneR j).length cp8) (oneR j).length (insCells (oneR j)) ∧ Chg (fun _ => False) w9.drew w1) (calls_ret ((h9.drewN 1).one (j : Int)) (by rintro e w1 ⟨g, cp, rfl, h1, h2, h3⟩; exact ⟨_, rfl, g, cp, _, rfl, h1, h2, (t8.drewN 1).keptO h3, h3⟩)) ?_
                  rintro v wa ⟨ga, cpa, Xa, rfl, ta, ha, t8a, hca⟩
                  have hSa : wa.heap[wr.heap.size]? = some (.cells #[.int .i64 kd, .int .i64 fn, .slice A2 bl c2] 32 (0, 0)) ∧ wa.cell? ⟨b9, o9 + kn, none⟩ = some (.int .i64 fn) := ⟨hca.heap hS0.1 (fun x => x), hca.cell hS0.2 (fun x => x)⟩
                  refine hK _ _ ⟨fun _ => hSa, ?_⟩
                  clear hK K h9 hca hsb9 hS0 t9 t8
                  simp only [Act.put, List.setIfInBounds_toArray, List.set_cons_succ, List.set_cons_zero]
                  refine ord_act rfl rfl (fun K hK => ?_)
                  refine wp_call 22 _ _ Try.func22 rfl (by kernel_rfl) _ _ rfl #[.slice A8 (oneR j).length cp8, .slice (some ⟨ga, 0, none⟩) 2 cpa] (by simp [Act.eval]) (R := fun v w1 => v = .bool true ∧ ∃ m, w1 = wa.drewN m) (calls_ret (ha.alike t8a ta rfl rfl true (by simp)) (by rintro e w1 ⟨rfl, h⟩; exact ⟨_, rfl, rfl, h⟩)) ?_
                  rintro v wb ⟨rfl, ma, rfl⟩
                  have hSb : (wa.drewN ma).heap[wr.heap.size]? = some (.cells #[.int .i64 kd, .int .i64 fn, .slice A2 bl c2] 32 (0, 0)) ∧ (wa.drewN ma).cell? ⟨b9, o9 + kn, none⟩ = some (.int .i64 fn) := hSa
                  refine hK _ _ ⟨fun _ => hSb, ?_⟩
                  clear hK K
                  have hz := ha.drewN ma
                  clear ta ha t8a hSa
                  simp only [Act.put, List.setIfInBounds_toArray, List.set_cons_succ, List.set_cons_zero]
                  iterate 13 (refine ord_look rfl hSb rfl (by intro w hS; obtain ⟨hS0, hS1⟩ := SC9.out w hS; go_simp; with_reducible rfl) (fun c a w h => h) ?_; simp only [Act.put, List.setIfInBounds_toArray, List.set_cons_succ, List.set_cons_zero])
                  refine ord_end ?_
                  generalize wa.drewN ma = wz at *
                  go_wp2_with fail
                  go_meet
                  case rel => exact ⟨_, n + 1, by omega, hz.free⟩
          · -- a drop
            have hgn : (getl (l.filter (fun e => e.1 != fn)) fn).isSome = false ∧ (getl (l.filter (fun e => e.1 != fn)) fn).getD [] = [] := by rw [getl_filter, if_pos rfl]; exact ⟨rfl, rfl⟩
            have HGN := Lib.hid hgn
            have HSB := Lib.hid hsb4
            clear hgn hsb4 tw
            refine (h4.drop fn hfw _ _ ⟨rfl, rfl⟩).mono ?_; rintro e w5 ⟨rfl, h5, hc5⟩
            have hsb5 := hc5.heap HSB.out (fun x => x.2 (.inl (.inr ⟨Nat.le_refl _, by simp⟩)))
            clear h4 hc5 e0 e1
            obtain ⟨e0, e1⟩ := SC.out _ hsb5
            clear hsb5
            go_wp2_with fail
            refine (h5.get fn hfw false [] HGN.out).mono ?_; rintro e w6 ⟨A6, cp6, rfl, _, _, h6, _⟩
            clear h5 e0 e1
            go_wp2_with fail
            go_meet
            case rel => exact ⟨_, n, by omega, h6.free⟩
          · go_meet
            case rel => exact ⟨l, n, by omega, h4.free⟩
        case rest =>
          obtain ⟨l', n', hn', h5⟩ := hcut
          clear h4 tw hsb4 e0 e1
          obtain ⟨ks, hks⟩ : ∃ ks, l'.map Prod.fst = ks := ⟨_, rfl⟩
          obtain ⟨r2, hr2⟩ : ∃ r2, ks.length = r2 := ⟨_, rfl⟩
          have HKS := Lib.hid (And.intro hks hr2)
          have hr2q : (r2 : Int) ≤ q := by have := h5.capok; rw [← hr2, ← hks, List.length_map]; omega
          have hr2q' : ¬ q < (r2 : Int) := by omega
          have HND : Hid (ks.Nodup) := Lib.hid (by rw [← hks]; exact h5.nodup)
          have HWF : Hid (∀ x ∈ ks, (Lit.int .i64 x).wf = true ∧ (getl l' x).isSome = true) := Lib.hid (fun x hx => by
            rw [← hks] at hx
            refine ⟨?_, getl_mem hx⟩
            obtain ⟨e, he, rfl⟩ := List.mem_map.1 hx
            exact h5.wf e he)
          have HLN : Hid ((l'.length : Int) = r2) := Lib.hid (by rw [← hr2, ← hks, List.length_map])
          clear hks hr2
          go_wp2_with fail
          refine (h5.held ks HKS.out.1).mono ?_; rintro e w6 ⟨Ah, cph, rfl, _, th, h6, _⟩
          rw [HKS.out.2] at th ⊢
          clear h5
          go_wp2_with fail
          refine (h6.len r2 HLN.out).mono ?_; rintro e w7 ⟨rfl, rfl⟩
          go_wp2_with fail
          go_loopg [21] r2 (fun k i wx => ∃ t : Nat, t ≤ r2 ∧ k = r2 - t ∧ i = .int .i64 t ∧ ∃ X, CB w0 wx X c q n' l' ∧ Tmp w0 wx X (.slice Ah r2 cph) r2 (ints ks))
          case atStart => exact ⟨0, by omega, rfl, rfl, _, h6, th⟩
          case round =>
            clear h6 th
            obtain ⟨t, ht, hk2, rfl, X, h6, th⟩ := hrel
            have HK2 := Lib.hid hk2
            clear hk2
            have hr32b : r2 ≤ 32 := by omega
            by_cases htl : t < r2
            · have htI : (t : Int) < (r2 : Int) := by omega
              have hcell : ∀ u, u < r2 → ∃ x, ks[u]? = some x ∧ ∀ wx X, Tmp w0 wx X (.slice Ah r2 cph) r2 (ints ks) → ∃ b off, Ah = some ⟨b, off, none⟩ ∧ wx.cell? ⟨b, off + u, none⟩ = some (.int .i64 x) := fun u hu => by
                obtain ⟨x, hx⟩ : ∃ x, ks[u]? = some x := ⟨_, List.getElem?_eq_getElem (by rw [HKS.out.2]; exact hu)⟩
                refine ⟨x, hx, fun wx X tt => ?_⟩
                rcases tt.src with ⟨_, h0, _⟩ | ⟨b, off, cap, e, _, _, _, hc⟩
                · omega
                · injection e with e1 e2 e3
                  exact ⟨b, off, e1, hc u _ (by unfold ints; rw [List.getElem?_map, hx]; rfl)⟩
              have HCELL := Lib.hid hcell
              obtain ⟨x, hx, hxc⟩ := hcell t htl
              obtain ⟨hxw, hxs⟩ := HWF.out x (List.mem_of_getElem? hx)
              have HX := Lib.hid hx
              have HXC := Lib.hid hxc
              have HXS := Lib.hid hxs
              obtain ⟨bh, oh, rfl, _⟩ := hxc _ _ th
              clear hcell hx hxc hxs
              go_wp2_with fail
              go_loopg [22] t (fun k i wx => ∃ u : Nat, u ≤ t ∧ k = t - u ∧ i = .int .i64 u ∧ ∃ X, CB w0 wx X c q n' l' ∧ Tmp w0 wx X (.slice (some ⟨bh, oh, none⟩) r2 cph) r2 (ints ks))
              case atStart => exact ⟨0, by omega, rfl, rfl, _, h6, th⟩
              case round =>
                clear h6 th
                obtain ⟨u, hu, hk3, rfl, X, h6, th⟩ := hrel
                have HK3 := Lib.hid hk3
                clear hk3
                obtain ⟨b1, o1, e1, c1⟩ := HXC.out _ _ th
                injection e1 with e1
                injection e1 with e1 e2
                subst e1 e2
                by_cases hul : u < t
                · have huI : (u : Int) < (t : Int) := by omega
                  have huI2 : (u : Int) < (r2 : Int) := by omega
                  obtain ⟨y, hy, hyc⟩ := HCELL.out u (by omega)
                  obtain ⟨b2, o2, e1, c2⟩ := hyc _ _ th
                  injection e1 with e1
                  injection e1 with e1 e2
                  subst e1 e2
                  have hne : ¬ x = y := fun e => by
                    have hx := HX.out
                    rw [e] at hx
                    obtain ⟨hl1, e1⟩ := List.getElem?_eq_some_iff.1 hx
                    obtain ⟨hl2, e2⟩ := List.getElem?_eq_some_iff.1 hy
                    exact (List.pairwise_iff_getElem.1 HND.out) u t hl2 hl1 hul (e2.trans e1.symm)
                  clear hy hyc
                  go_wp2_with fail
                  go_region
                  go_wp2_with fail
                  go_roundg (t - (u + 1))
                  case measure => have := HK3.out; omega
                  case rel => exact ⟨u + 1, by omega, rfl, by go_num, X, h6.drewN 1, th.drewN 1⟩
                · obtain rfl : u = t := by omega
                  obtain ⟨bx, hbx⟩ : ∃ bx, (getl l' x).getD [] = bx := ⟨_, rfl⟩
                  have HG := Lib.hid (And.intro HXS.out hbx)
                  clear hbx
                  go_wp2_with fail
                  refine (h6.get x hxw true bx HG.out).mono ?_; rintro e wg ⟨Ag, cpg, rfl, _, _, hg, hcg⟩
                  replace th := th.keptO hcg
                  clear c1 h6 hcg
                  go_wp2_with fail
                  go_roundg (r2 - (u + 1))
                  case measure => have := HK2.out; omega
                  case rel => exact ⟨u + 1, by omega, rfl, by go_num, _, hg, th⟩
            · go_wp2_with fail
              go_roundg (150 - (j + 1))
              case measure => have := HK.out; omega
              case rel => exact ⟨j + 1, by omega, by omega, rfl, by go_num, l', n', hn', h6.free⟩
      · go_wp2_with fail
        go_ret
        exact ⟨rfl, h2.bel⟩
    · go_wp2_with fail
      go_ret
      exact ⟨rfl, h2.bel⟩

theorem cacheBounds_walk (p : Int) (A : Option Addr) (cp : Nat) (ls : List CStep) (w : World) (hq : (Lit.int .i64 p).wf = true) (hr : rdStep.C w A ls) (hl : ls.length * 40 ≤ 140737488351232) :
    Calls Try.prog 4 #[.int .i64 p, .slice A ls.length cp] w fun e w' => e = .returned (.bool true) ∧ Below w.heap.size w w' := by
  by_cases h1 : p < 1
  · exact bounds_core p 1 1 (by unfold clampc; rw [if_pos h1]) (by rw [if_pos h1]) (by decide) (by decide) (by decide) A cp ls w hr hl
  · by_cases h2 : 32 < p
    · exact bounds_core p p 32 (by unfold clampc; rw [if_neg h1, if_pos h2]) (by rw [if_neg h1]) (by rw [if_pos h2]) (by decide) (by decide) A cp ls w hr hl
    · exact bounds_core p p p (by unfold clampc; rw [if_neg h1, if_neg h2]) (by rw [if_neg h1]) (by rw [if_neg h2]) (by omega) (by omega) A cp ls w hr hl
end Go.Proofs.Ythmjmggeihonnaa
