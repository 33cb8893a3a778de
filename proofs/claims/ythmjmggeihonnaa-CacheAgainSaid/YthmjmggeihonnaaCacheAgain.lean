/- CacheAgain: the walk of the law. -/
import Derived.Test.YthmjmggeihonnaaCacheTwo
import Derived.Deep.LoopGhost
namespace Go.Proofs.Ythmjmggeihonnaa
set_option linter.unusedVariables false
set_option linter.unusedSimpArgs false
open Go.RowKit Go.Deep

def AgRel (w0 : World) (ca cb len : Nat) (cap : Int) (k : Nat) (i : Value) (wr : World) : Prop :=
  ∃ (j : Nat), j ≤ len ∧ j ≤ 100 ∧ k = 100 - j ∧ i = .int .i64 j ∧ ∃ (l : List (Int × List InsR)) (n : Nat), n ≤ j ∧ C2 w0 wr (fun _ => False) ca cb cap n n l l

set_option maxHeartbeats 16000000 in
set_option maxRecDepth 100000 in
theorem cacheAgain_walk (q : Int) (A : Option Addr) (cp : Nat) (ls : List CStep) (w : World) (hq : (Lit.int .i64 q).wf = true) (hr : rdStep.C w A ls) (hl : ls.length * 40 ≤ 140737488351232) :
    Calls Try.prog 6 #[.int .i64 q, .slice A ls.length cp] w fun e w' => e = .returned (.bool true) ∧ Below w.heap.size w w' := by
  suffices hs : ∀ w0, w0 = w → ∀ len, len = ls.length → Calls Try.prog 6 #[.int .i64 q, .slice A len cp] w fun e w' => e = .returned (.bool true) ∧ Below w0.heap.size w0 w' from hs w rfl _ rfl
  intro w0 hw0 len hlen
  have HR := Lib.hid hr
  have HW := Lib.hid hw0
  have HL := Lib.hid hlen
  have hlm : len ≤ 9223372036854775807 := by omega
  clear hr hw0 hl hlen hq
  obtain ⟨cap, hcap⟩ : ∃ cap, clampc q = cap := ⟨_, rfl⟩
  have HC := Lib.hid hcap
  clear hcap
  go_enter Try.func6, Try.ntmps6
  go_wp2_with fail
  refine (shown_any _).mono ?_; rintro e w1 ⟨rfl, hb1⟩
  have HB1 : Hid (Below w0.heap.size w0 w1) := by rw [HW.out]; exact hb1
  clear hb1
  go_wp2_with fail
  refine (CB.new HB1.out q cap HC.out).mono ?_; rintro e w2 ⟨ca, rfl, h2⟩
  go_wp2_with fail
  refine (C2.new (w1 := w1) h2 q HC.out).mono ?_; rintro e w3 ⟨cb, rfl, h3⟩
  clear h2
  go_wp2_with fail
  go_loopg [8] 100 (fun k i wr => AgRel w0 ca cb len cap k i wr)
  case atStart => exact ⟨0, by omega, by omega, rfl, rfl, [], 0, by omega, h3⟩
  case round =>
    clear h3
    obtain ⟨j, hj1, hj2, hk, rfl, l, n, hn, h2⟩ := hrel
    have HK := Lib.hid hk
    clear hk
    by_cases hlt : j < len
    · by_cases h100 : j < 100
      · have h100I : (j : Int) < 100 := by omega
        obtain ⟨b, off, s, A2, c2, rfl, hs, hbl, wf0, hfw, hbd, htm, hc⟩ := cstep_cells HR.out j (by rw [← HL.out]; exact hlt)
        obtain ⟨p0, p1, p2⟩ := hc w0 wr HW.out h2.bel
        obtain ⟨kd, fn, body⟩ := s
        simp only at p0 p1 p2 hfw hbd htm
        have TT : Hid (∀ wx X, Below w0.heap.size w0 wx → Tmp w0 wx X (.slice A2 body.length c2) body.length (insCells body)) := Lib.hid (fun wx X hb => htm w0 wx X HW.out hb)
        have HBL := Lib.hid hbd
        clear hc hs wf0 htm hbd
        obtain ⟨bl, hbl2⟩ : ∃ bl, bl = body.length := ⟨_, rfl⟩
        rw [← hbl2] at p2
        have TT : Hid (∀ wx X, Below w0.heap.size w0 wx → Tmp w0 wx X (.slice A2 bl c2) body.length (insCells body)) := by rw [hbl2]; exact TT
        clear hbl2
        have hca : Chg (fun _ => False) wr (wr.alloc (.cells #[.int .i64 kd, .int .i64 fn, .slice A2 bl c2] 32)) := (Chg.refl _ _).alloc _
        have h3 := h2.other hca
        have hsb : (wr.alloc (.cells #[.int .i64 kd, .int .i64 fn, .slice A2 bl c2] 32)).heap[wr.heap.size]? = some (.cells #[.int .i64 kd, .int .i64 fn, .slice A2 bl c2] 32 (0, 0)) := heap_new _ _
        obtain ⟨wab, hwab⟩ : ∃ wab, wab = (wr.alloc (.cells #[.int .i64 kd, .int .i64 fn, .slice A2 bl c2] 32)) := ⟨_, rfl⟩
        have HXB : Hid (Old (fun _ => False) wr wab wr.heap.size) := Lib.hid (.inr ⟨Nat.le_refl _, by rw [hwab]; simp⟩)
        have h3 : C2 w0 (wr.alloc (.cells #[.int .i64 kd, .int .i64 fn, .slice A2 bl c2] 32)) (Old (fun _ => False) wr wab) ca cb cap n n l l := by rw [hwab]; exact h3
        clear hwab hca
        have SC : ∀ wx : World, wx.heap[wr.heap.size]? = some (.cells #[.int .i64 kd, .int .i64 fn, .slice A2 bl c2] 32 (0, 0)) → wx.cell? ⟨wr.heap.size, 1, none⟩ = some (.int .i64 fn) ∧ wx.cell? ⟨wr.heap.size, 2, none⟩ = some (.slice A2 bl c2) :=
          fun wx hx => ⟨cell_of_block hx 1, cell_of_block hx 2⟩
        have SC := Lib.hid SC
        go_wp2_with fail
        iterate 3
          · skip
            obtain ⟨e1, e2⟩ := SC.out _ hsb
            obtain ⟨go, ev, l', hpv⟩ : ∃ go ev l', putv cap l fn body = (go, ev, l') := ⟨_, _, _, rfl⟩
            have HPV := Lib.hid hpv
            clear hpv
            generalize (wr.alloc (.cells #[.int .i64 kd, .int .i64 fn, .slice A2 bl c2] 32)) = wa at *
            go_wp2_with fail
            refine (h3.put fn hfw _ body (TT.out _ _ h3.bel) HBL.out (by omega) go ev l' HPV.out).mono ?_; rintro e w4 ⟨rfl, h4, hc4⟩
            have hsb4 := hc4.heap hsb (fun x => x.2 HXB.out)
            clear e1 e2 hsb h3 hc4
            obtain ⟨e1, e2⟩ := SC.out _ hsb4
            go_wp2_with fail
            refine (h4.symm.put fn hfw _ body (TT.out _ _ h4.bel) HBL.out (by omega) go ev l' HPV.out).mono ?_; rintro e w5 ⟨rfl, h5, hc5⟩
            replace h5 := h5.symm.free
            clear e1 e2 hsb4 h4 hc5
            go_wp2_with fail
            obtain ⟨keys, hkeys⟩ : ∃ keys, l'.map Prod.fst = keys := ⟨_, rfl⟩
            obtain ⟨r, hr⟩ : ∃ r, keys.length = r := ⟨_, rfl⟩
            have HKY := Lib.hid (And.intro hkeys hr)
            have hr32 : r ≤ 32 := by have := h5.capok; rw [← hr, ← hkeys, List.length_map]; omega
            have HWF : Hid (∀ x ∈ keys, (Lit.int .i64 x).wf = true ∧ (getl l' x).isSome = true) := Lib.hid (fun x hx => by
              rw [← hkeys] at hx
              refine ⟨?_, getl_mem hx⟩
              obtain ⟨e, he, rfl⟩ := List.mem_map.1 hx
              exact h5.wf e he)
            clear hkeys hr
            refine (h5.symm.held keys r HKY.out.1 HKY.out.2).mono ?_; rintro e wh ⟨Ah, cph, rfl, _, th, hh, _⟩
            replace hh := hh.symm
            clear h5
            go_wp2_with fail
            go_loopg [15] r (fun k i wx => ∃ t : Nat, t ≤ r ∧ k = r - t ∧ i = .int .i64 t ∧ ∃ X, C2 w0 wx X ca cb cap (n + 1) (n + 1) l' l' ∧ Tmp w0 wx X (.slice Ah r cph) r (ints keys))
            case atStart => exact ⟨0, by omega, rfl, rfl, _, hh, th⟩
            case round =>
              clear hh th
              obtain ⟨t, ht, hk2, rfl, X, hh, th⟩ := hrel
              have HK2 := Lib.hid hk2
              clear hk2
              by_cases htl : t < r
              · have htI : (t : Int) < (r : Int) := by omega
                obtain ⟨x, hx⟩ : ∃ x, keys[t]? = some x := ⟨_, List.getElem?_eq_getElem (by rw [HKY.out.2]; exact htl)⟩
                have hxm := HWF.out x (List.mem_of_getElem? hx)
                obtain ⟨hxw, hxs⟩ := hxm
                have hcell : ∀ wx X, Tmp w0 wx X (.slice Ah r cph) r (ints keys) → ∃ b off, Ah = some ⟨b, off, none⟩ ∧ wx.cell? ⟨b, off + t, none⟩ = some (.int .i64 x) := fun wx X tt => by
                  rcases tt.src with ⟨_, h0, _⟩ | ⟨b, off, cap, e, _, _, _, hc⟩
                  · omega
                  · injection e with e1 e2 e3
                    exact ⟨b, off, e1, hc t _ (by unfold ints; rw [List.getElem?_map, hx]; rfl)⟩
                have HCELL := Lib.hid hcell
                obtain ⟨bh, oh, rfl, hc1⟩ := hcell _ _ th
                clear hx hcell
                obtain ⟨bx, hbx⟩ : ∃ bx, (getl l' x).getD [] = bx := ⟨_, rfl⟩
                have HG := Lib.hid (And.intro hxs hbx)
                clear hxs hbx
                go_wp2_with fail
                refine (hh.symm.get x hxw true bx HG.out).mono ?_; rintro e wg ⟨Ag, cpg, rfl, tg, hg, hcg⟩
                replace th := th.keptO hcg
                clear hc1 hh hcg
                obtain ⟨bh', oh', e1, hc1⟩ := HCELL.out _ _ th
                injection e1 with e1
                injection e1 with e1 e2
                subst e1 e2
                go_wp2_with fail
                refine (hg.symm.get x hxw true bx HG.out).mono ?_; rintro e wg2 ⟨Ag2, cpg2, rfl, tg2, hg2, hcg⟩
                replace th := th.keptO hcg
                replace tg := tg.keptO hcg
                clear hc1 hg hcg
                have hal : Calls Try.prog 22 #[.slice Ag bx.length cpg, .slice Ag2 bx.length cpg2] wg2 fun e w' => e = .returned (.bool true) ∧ ∃ m, w' = wg2.drewN m := by
                  have := alike_any tg.src tg2.src
                  rwa [decide_eq_true rfl] at this
                clear tg tg2
                go_wp2_with fail
                refine hal.mono ?_; rintro e wg3 ⟨rfl, mg, rfl⟩
                replace hg2 := hg2.drewN mg
                replace th := th.drewN mg
                clear hal
                generalize wg2.drewN mg = wg3 at *
                go_wp2_with fail
                go_roundg (r - (t + 1))
                case measure => have := HK2.out; omega
                case rel => exact ⟨t + 1, by omega, rfl, by go_num, _, hg2, th⟩
              · obtain rfl : t = r := by omega
                clear th
                go_wp2_with fail
                refine (hh.held keys t HKY.out.1 HKY.out.2).mono ?_; rintro e wi ⟨Ai, cpi, rfl, _, ti, hi2, _⟩
                clear hh
                go_wp2_with fail
                refine (hi2.symm.held keys t HKY.out.1 HKY.out.2).mono ?_; rintro e wj ⟨Aj, cpj, rfl, _, tj, hj2, hcj⟩
                replace ti := ti.keptO hcj
                clear hi2 hcj
                have hsm : Calls Try.prog 23 #[.slice Ai t cpi, .slice Aj t cpj] wj fun e w' => e = .returned (.bool true) ∧ ∃ m, w' = wj.drewN m := by
                  have := same_any (xs := keys) (ys := keys) (w := wj) (a := .slice Ai t cpi) (b := .slice Aj t cpj) (by rw [HKY.out.2]; exact ti.src) (by rw [HKY.out.2]; exact tj.src)
                  rwa [decide_eq_true rfl] at this
                clear ti tj
                go_wp2_with fail
                refine hsm.mono ?_; rintro e wk ⟨rfl, mk, rfl⟩
                replace hj2 := (hj2.drewN mk).free.symm
                clear hsm
                generalize wj.drewN mk = wk at *
                go_wp2_with fail
                go_roundg (100 - (j + 1))
                case measure => have := HK.out; omega
                case rel => exact ⟨j + 1, by omega, by omega, rfl, by go_num, l', (n + 1), by omega, hj2⟩
        · skip
          generalize (wr.alloc (.cells #[.int .i64 kd, .int .i64 fn, .slice A2 bl c2] 32)) = wa at *
          obtain ⟨bd, l', hdv⟩ : ∃ bd l', (getl l fn).isSome = bd ∧ l.filter (fun e => e.1 != fn) = l' := ⟨_, _, rfl, rfl⟩
          have HDV := Lib.hid hdv
          clear hdv
          go_wp2_with fail
          have h3' := h3.drewN 1
          have hS0 : wa.drew.heap[wr.heap.size]? = some (.cells #[.int .i64 kd, .int .i64 fn, .slice A2 bl c2] 32 (0, 0)) := hsb
          refine wp_region_ord (S := fun w' => w'.heap[wr.heap.size]? = some (.cells #[.int .i64 kd, .int .i64 fn, .slice A2 bl c2] 32 (0, 0))) (N := fun i => true) (by kernel_rfl) [(0, true), (1, true), (2, true), (4, true), (5, true), (6, true), (3, false), (7, false), (8, true)] (by kernel_rfl) ?_
          iterate 6 (refine ord_look rfl hS0 rfl (by intro w hS; obtain ⟨hS1, hS2⟩ := SC.out w hS; go_simp; with_reducible rfl) (fun c a w h => h) ?_; simp only [Act.put, List.setIfInBounds_toArray, List.set_cons_succ, List.set_cons_zero])
          refine ord_act rfl rfl (fun K hK => ?_)
          refine wp_call 14 _ _ Try.func14 rfl (by kernel_rfl) _ _ rfl #[.pointer (some ⟨ca, 0, none⟩), .int .i64 fn] (by simp [Act.eval]) (R := fun x w1 => x = .bool bd ∧ C2 w0 w1 (Old (fun _ => False) wr wab) ca cb cap n n l' l ∧ Chg (fun k => w0.heap.size ≤ k ∧ ¬ Old (fun _ => False) wr wab k) wa.drew w1) (calls_ret (h3'.drop fn hfw bd l' HDV.out) (by rintro e w1 ⟨rfl, h⟩; exact ⟨_, rfl, rfl, h⟩)) ?_
          rintro x w4 ⟨rfl, h4, hc4⟩
          have hsb4 := hc4.heap hS0 (fun x => x.2 HXB.out)
          refine hK _ _ ⟨fun _ => hsb4, ?_⟩
          clear hK K h3' hS0 hc4 h3 hsb
          simp only [Act.put, List.setIfInBounds_toArray, List.set_cons_succ, List.set_cons_zero]
          refine ord_act rfl rfl (fun K hK => ?_)
          refine wp_call 14 _ _ Try.func14 rfl (by kernel_rfl) _ _ rfl #[.pointer (some ⟨cb, 0, none⟩), .int .i64 fn] (by simp [Act.eval]) (R := fun x w1 => x = .bool bd ∧ C2 w0 w1 (Old (fun _ => False) wr wab) cb ca cap n n l' l' ∧ Chg (fun k => w0.heap.size ≤ k ∧ ¬ Old (fun _ => False) wr wab k) w4 w1) (calls_ret (h4.symm.drop fn hfw bd l' HDV.out) (by rintro e w1 ⟨rfl, h⟩; exact ⟨_, rfl, rfl, h⟩)) ?_
          rintro x w5 ⟨rfl, h5, hc5⟩
          have hsb5 := hc5.heap hsb4 (fun x => x.2 HXB.out)
          refine hK _ _ ⟨fun _ => hsb5, ?_⟩
          clear hK K hsb4 hc5 h4
          simp only [Act.put, List.setIfInBounds_toArray, List.set_cons_succ, List.set_cons_zero]
          refine ord_look rfl hsb5 rfl (by intro w hS; go_simp; with_reducible rfl) (fun c a w h => h) ?_; simp only [Act.put, List.setIfInBounds_toArray, List.set_cons_succ, List.set_cons_zero]
          refine ord_end ?_
          replace h5 := h5.symm.free
          clear hsb5
          go_wp2_with fail
          obtain ⟨keys, hkeys⟩ : ∃ keys, l'.map Prod.fst = keys := ⟨_, rfl⟩
          obtain ⟨r, hr⟩ : ∃ r, keys.length = r := ⟨_, rfl⟩
          have HKY := Lib.hid (And.intro hkeys hr)
          have hr32 : r ≤ 32 := by have := h5.capok; rw [← hr, ← hkeys, List.length_map]; omega
          have HWF : Hid (∀ x ∈ keys, (Lit.int .i64 x).wf = true ∧ (getl l' x).isSome = true) := Lib.hid (fun x hx => by
            rw [← hkeys] at hx
            refine ⟨?_, getl_mem hx⟩
            obtain ⟨e, he, rfl⟩ := List.mem_map.1 hx
            exact h5.wf e he)
          clear hkeys hr
          refine (h5.symm.held keys r HKY.out.1 HKY.out.2).mono ?_; rintro e wh ⟨Ah, cph, rfl, _, th, hh, _⟩
          replace hh := hh.symm
          clear h5
          go_wp2_with fail
          go_loopg [15] r (fun k i wx => ∃ t : Nat, t ≤ r ∧ k = r - t ∧ i = .int .i64 t ∧ ∃ X, C2 w0 wx X ca cb cap n n l' l' ∧ Tmp w0 wx X (.slice Ah r cph) r (ints keys))
          case atStart => exact ⟨0, by omega, rfl, rfl, _, hh, th⟩
          case round =>
            clear hh th
            obtain ⟨t, ht, hk2, rfl, X, hh, th⟩ := hrel
            have HK2 := Lib.hid hk2
            clear hk2
            by_cases htl : t < r
            · have htI : (t : Int) < (r : Int) := by omega
              obtain ⟨x, hx⟩ : ∃ x, keys[t]? = some x := ⟨_, List.getElem?_eq_getElem (by rw [HKY.out.2]; exact htl)⟩
              have hxm := HWF.out x (List.mem_of_getElem? hx)
              obtain ⟨hxw, hxs⟩ := hxm
              have hcell : ∀ wx X, Tmp w0 wx X (.slice Ah r cph) r (ints keys) → ∃ b off, Ah = some ⟨b, off, none⟩ ∧ wx.cell? ⟨b, off + t, none⟩ = some (.int .i64 x) := fun wx X tt => by
                rcases tt.src with ⟨_, h0, _⟩ | ⟨b, off, cap, e, _, _, _, hc⟩
                · omega
                · injection e with e1 e2 e3
                  exact ⟨b, off, e1, hc t _ (by unfold ints; rw [List.getElem?_map, hx]; rfl)⟩
              have HCELL := Lib.hid hcell
              obtain ⟨bh, oh, rfl, hc1⟩ := hcell _ _ th
              clear hx hcell
              obtain ⟨bx, hbx⟩ : ∃ bx, (getl l' x).getD [] = bx := ⟨_, rfl⟩
              have HG := Lib.hid (And.intro hxs hbx)
              clear hxs hbx
              go_wp2_with fail
              refine (hh.symm.get x hxw true bx HG.out).mono ?_; rintro e wg ⟨Ag, cpg, rfl, tg, hg, hcg⟩
              replace th := th.keptO hcg
              clear hc1 hh hcg
              obtain ⟨bh', oh', e1, hc1⟩ := HCELL.out _ _ th
              injection e1 with e1
              injection e1 with e1 e2
              subst e1 e2
              go_wp2_with fail
              refine (hg.symm.get x hxw true bx HG.out).mono ?_; rintro e wg2 ⟨Ag2, cpg2, rfl, tg2, hg2, hcg⟩
              replace th := th.keptO hcg
              replace tg := tg.keptO hcg
              clear hc1 hg hcg
              have hal : Calls Try.prog 22 #[.slice Ag bx.length cpg, .slice Ag2 bx.length cpg2] wg2 fun e w' => e = .returned (.bool true) ∧ ∃ m, w' = wg2.drewN m := by
                have := alike_any tg.src tg2.src
                rwa [decide_eq_true rfl] at this
              clear tg tg2
              go_wp2_with fail
              refine hal.mono ?_; rintro e wg3 ⟨rfl, mg, rfl⟩
              replace hg2 := hg2.drewN mg
              replace th := th.drewN mg
              clear hal
              generalize wg2.drewN mg = wg3 at *
              go_wp2_with fail
              go_roundg (r - (t + 1))
              case measure => have := HK2.out; omega
              case rel => exact ⟨t + 1, by omega, rfl, by go_num, _, hg2, th⟩
            · obtain rfl : t = r := by omega
              clear th
              go_wp2_with fail
              refine (hh.held keys t HKY.out.1 HKY.out.2).mono ?_; rintro e wi ⟨Ai, cpi, rfl, _, ti, hi2, _⟩
              clear hh
              go_wp2_with fail
              refine (hi2.symm.held keys t HKY.out.1 HKY.out.2).mono ?_; rintro e wj ⟨Aj, cpj, rfl, _, tj, hj2, hcj⟩
              replace ti := ti.keptO hcj
              clear hi2 hcj
              have hsm : Calls Try.prog 23 #[.slice Ai t cpi, .slice Aj t cpj] wj fun e w' => e = .returned (.bool true) ∧ ∃ m, w' = wj.drewN m := by
                have := same_any (xs := keys) (ys := keys) (w := wj) (a := .slice Ai t cpi) (b := .slice Aj t cpj) (by rw [HKY.out.2]; exact ti.src) (by rw [HKY.out.2]; exact tj.src)
                rwa [decide_eq_true rfl] at this
              clear ti tj
              go_wp2_with fail
              refine hsm.mono ?_; rintro e wk ⟨rfl, mk, rfl⟩
              replace hj2 := (hj2.drewN mk).free.symm
              clear hsm
              generalize wj.drewN mk = wk at *
              go_wp2_with fail
              go_roundg (100 - (j + 1))
              case measure => have := HK.out; omega
              case rel => exact ⟨j + 1, by omega, by omega, rfl, by go_num, l', n, by omega, hj2⟩
        · skip
          replace h3 := h3.free
          generalize (wr.alloc (.cells #[.int .i64 kd, .int .i64 fn, .slice A2 bl c2] 32)) = wa at *
          go_wp2_with fail
          obtain ⟨keys, hkeys⟩ : ∃ keys, l.map Prod.fst = keys := ⟨_, rfl⟩
          obtain ⟨r, hr⟩ : ∃ r, keys.length = r := ⟨_, rfl⟩
          have HKY := Lib.hid (And.intro hkeys hr)
          have hr32 : r ≤ 32 := by have := h3.capok; rw [← hr, ← hkeys, List.length_map]; omega
          have HWF : Hid (∀ x ∈ keys, (Lit.int .i64 x).wf = true ∧ (getl l x).isSome = true) := Lib.hid (fun x hx => by
            rw [← hkeys] at hx
            refine ⟨?_, getl_mem hx⟩
            obtain ⟨e, he, rfl⟩ := List.mem_map.1 hx
            exact h3.wf e he)
          clear hkeys hr
          refine (h3.symm.held keys r HKY.out.1 HKY.out.2).mono ?_; rintro e wh ⟨Ah, cph, rfl, _, th, hh, _⟩
          replace hh := hh.symm
          clear h3
          go_wp2_with fail
          go_loopg [15] r (fun k i wx => ∃ t : Nat, t ≤ r ∧ k = r - t ∧ i = .int .i64 t ∧ ∃ X, C2 w0 wx X ca cb cap n n l l ∧ Tmp w0 wx X (.slice Ah r cph) r (ints keys))
          case atStart => exact ⟨0, by omega, rfl, rfl, _, hh, th⟩
          case round =>
            clear hh th
            obtain ⟨t, ht, hk2, rfl, X, hh, th⟩ := hrel
            have HK2 := Lib.hid hk2
            clear hk2
            by_cases htl : t < r
            · have htI : (t : Int) < (r : Int) := by omega
              obtain ⟨x, hx⟩ : ∃ x, keys[t]? = some x := ⟨_, List.getElem?_eq_getElem (by rw [HKY.out.2]; exact htl)⟩
              have hxm := HWF.out x (List.mem_of_getElem? hx)
              obtain ⟨hxw, hxs⟩ := hxm
              have hcell : ∀ wx X, Tmp w0 wx X (.slice Ah r cph) r (ints keys) → ∃ b off, Ah = some ⟨b, off, none⟩ ∧ wx.cell? ⟨b, off + t, none⟩ = some (.int .i64 x) := fun wx X tt => by
                rcases tt.src with ⟨_, h0, _⟩ | ⟨b, off, cap, e, _, _, _, hc⟩
                · omega
                · injection e with e1 e2 e3
                  exact ⟨b, off, e1, hc t _ (by unfold ints; rw [List.getElem?_map, hx]; rfl)⟩
              have HCELL := Lib.hid hcell
              obtain ⟨bh, oh, rfl, hc1⟩ := hcell _ _ th
              clear hx hcell
              obtain ⟨bx, hbx⟩ : ∃ bx, (getl l x).getD [] = bx := ⟨_, rfl⟩
              have HG := Lib.hid (And.intro hxs hbx)
              clear hxs hbx
              go_wp2_with fail
              refine (hh.symm.get x hxw true bx HG.out).mono ?_; rintro e wg ⟨Ag, cpg, rfl, tg, hg, hcg⟩
              replace th := th.keptO hcg
              clear hc1 hh hcg
              obtain ⟨bh', oh', e1, hc1⟩ := HCELL.out _ _ th
              injection e1 with e1
              injection e1 with e1 e2
              subst e1 e2
              go_wp2_with fail
              refine (hg.symm.get x hxw true bx HG.out).mono ?_; rintro e wg2 ⟨Ag2, cpg2, rfl, tg2, hg2, hcg⟩
              replace th := th.keptO hcg
              replace tg := tg.keptO hcg
              clear hc1 hg hcg
              have hal : Calls Try.prog 22 #[.slice Ag bx.length cpg, .slice Ag2 bx.length cpg2] wg2 fun e w' => e = .returned (.bool true) ∧ ∃ m, w' = wg2.drewN m := by
                have := alike_any tg.src tg2.src
                rwa [decide_eq_true rfl] at this
              clear tg tg2
              go_wp2_with fail
              refine hal.mono ?_; rintro e wg3 ⟨rfl, mg, rfl⟩
              replace hg2 := hg2.drewN mg
              replace th := th.drewN mg
              clear hal
              generalize wg2.drewN mg = wg3 at *
              go_wp2_with fail
              go_roundg (r - (t + 1))
              case measure => have := HK2.out; omega
              case rel => exact ⟨t + 1, by omega, rfl, by go_num, _, hg2, th⟩
            · obtain rfl : t = r := by omega
              clear th
              go_wp2_with fail
              refine (hh.held keys t HKY.out.1 HKY.out.2).mono ?_; rintro e wi ⟨Ai, cpi, rfl, _, ti, hi2, _⟩
              clear hh
              go_wp2_with fail
              refine (hi2.symm.held keys t HKY.out.1 HKY.out.2).mono ?_; rintro e wj ⟨Aj, cpj, rfl, _, tj, hj2, hcj⟩
              replace ti := ti.keptO hcj
              clear hi2 hcj
              have hsm : Calls Try.prog 23 #[.slice Ai t cpi, .slice Aj t cpj] wj fun e w' => e = .returned (.bool true) ∧ ∃ m, w' = wj.drewN m := by
                have := same_any (xs := keys) (ys := keys) (w := wj) (a := .slice Ai t cpi) (b := .slice Aj t cpj) (by rw [HKY.out.2]; exact ti.src) (by rw [HKY.out.2]; exact tj.src)
                rwa [decide_eq_true rfl] at this
              clear ti tj
              go_wp2_with fail
              refine hsm.mono ?_; rintro e wk ⟨rfl, mk, rfl⟩
              replace hj2 := (hj2.drewN mk).free.symm
              clear hsm
              generalize wj.drewN mk = wk at *
              go_wp2_with fail
              go_roundg (100 - (j + 1))
              case measure => have := HK.out; omega
              case rel => exact ⟨j + 1, by omega, by omega, rfl, by go_num, l, n, by omega, hj2⟩
      · go_wp2_with fail
        go_ret
        exact ⟨rfl, h2.bel⟩
    · go_wp2_with fail
      go_ret
      exact ⟨rfl, h2.bel⟩
end Go.Proofs.Ythmjmggeihonnaa
