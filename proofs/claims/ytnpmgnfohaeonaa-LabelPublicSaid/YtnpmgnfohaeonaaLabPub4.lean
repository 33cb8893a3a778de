/- LabelPublic: the walk of the law. -/
import Derived.Test.YtnpmgnfohaeonaaLabPub3
namespace Go.Proofs.Ytnpmgnfohaeonaa
set_option linter.unusedVariables false
set_option linter.unusedSimpArgs false
open Go.ChangeShapes Go.WideShapes Go.ChangeAt Go.RowKit

theorem infoStr : (Try.prog.info? 9).map (fun i => (i.zero, i.size, i.bytes)) = some (some (.string ByteArray.empty), 1, 16) := by kernel_rfl
theorem infoFunc : (Try.prog.info? 38).map (fun i => (i.zero, i.size, i.bytes)) = some (some (.agg #[.string ByteArray.empty, .slice none 0 0, .slice none 0 0]), 3, 64) := by kernel_rfl
theorem funcs_done {w : World} {X : Nat → Prop} {A : Option Addr} {c : Nat} {f : Nat → List Value} {xs : List FuncT} (hr : RowAt w X 3 A xs.length c f) (hx : ∀ (j : Nat) (x : FuncT), xs[j]? = some x → IsFn w X x (f j)) : Funcs w X A c xs := by
  have hv : ∀ j : Nat, ∃ v : FuncV, ∀ x, xs[j]? = some x → f j = v.cells ∧ IsFunc w X x v := fun j => by
    by_cases hj : j < xs.length
    · obtain ⟨v, e1, e2⟩ := hx j xs[j] (List.getElem?_eq_getElem hj)
      exact ⟨v, fun x hx => by rw [List.getElem?_eq_getElem hj] at hx; injection hx with hx; subst hx; exact ⟨e1, e2⟩⟩
    · exact ⟨⟨ByteArray.empty, none, 0, 0, none, 0, 0⟩, fun x hx => absurd (List.getElem?_eq_some_iff.1 hx).1 hj⟩
  exact ⟨fun j => Classical.choose (hv j), hr.congr (fun j hj => (Classical.choose_spec (hv j) xs[j] (List.getElem?_eq_getElem hj)).1), fun j x hx => (Classical.choose_spec (hv j) x hx).2⟩

set_option maxHeartbeats 8000000 in
set_option maxRecDepth 100000 in
theorem labelPublic_walk (tp : ProgT) (cp : List Value) (w0 : World) (hp : rdProgN.K w0 tp cp) :
    Calls Try.prog 4 #[.agg cp.toArray] w0 fun e w' => e = .returned (.bool true) ∧ Below w0.heap.size w0 w' := by
  obtain ⟨fs, mn⟩ := tp
  obtain ⟨A, c, B, cb, rfl, hF, hM, hlf, hsf, hlm, hsm⟩ := hp
  simp only at hF hM hlf hsf hlm hsm
  obtain ⟨nf, hnf⟩ : ∃ nf, nf = fs.length := ⟨_, rfl⟩
  obtain ⟨nm0, hnm0⟩ : ∃ nm0, nm0 = mn.length := ⟨_, rfl⟩
  show Calls Try.prog 4 #[.agg #[.slice A fs.length c, .slice B mn.length cb]] w0 _
  have HF0 := Lib.hid hF
  have HM0 := Lib.hid hM
  have HSF := Lib.hid hsf
  have HSM := Lib.hid hsm
  have HNF := Lib.hid hnf
  have HNM0 := Lib.hid hnm0
  rw [← hnf] at hlf ⊢
  rw [← hnm0] at hlm ⊢
  clear hF hM hsf hsm hnf hnm0
  obtain ⟨b0, hb0⟩ : ∃ b0, b0 = w0.heap.size := ⟨_, rfl⟩
  obtain ⟨w, hw⟩ : ∃ w, w = w0.alloc (.cells #[.slice A nf c, .slice B nm0 cb] 25) := ⟨_, rfl⟩
  have hbw : Below w0.heap.size w0 w := by rw [hw]; exact (Below.refl _ _).alloc (Nat.le_refl _) _
  have hbx : w.heap[b0]? = some (.cells #[.slice A nf c, .slice B nm0 cb] 25 (0, 0)) := by rw [hw]; exact heap_new' hb0.symm
  have HBW := Lib.hid hbw
  have HBX0 := Lib.hid hbx
  have HW := Lib.hid (And.intro hb0 hw)
  have HF1 : Hid (Funcs w (Lt w) A c fs) := Lib.hid (Funcs.mono (HF0.out.kept (Below.chg hbw) (fun _ _ x => x)) (fun k hk => Nat.lt_of_lt_of_le hk hbw.size))
  have HM1 : Hid (Stmts w (Lt w) B cb mn) := Lib.hid ((HM0.out.kept (Below.chg hbw) (fun _ _ x => x)).mono (fun k hk => Nat.lt_of_lt_of_le hk hbw.size))
  clear hbw hbx hb0 hw HF0 HM0
  go_enter Try.func4, Try.ntmps4
  go_wp2_with fail
  rw [← HW.out.1, ← HW.out.2]
  refine (shown_any _).mono ?_; rintro e w1 ⟨rfl, hb1⟩
  have q1 := cell_of_block ((Below.chg hb1).heap HBX0.out (fun x => x)) 1
  simp at q1
  have HB1W := Lib.hid hb1
  have CM : Hid (Calls Try.prog 15 #[.slice B nm0 cb, .int .i64 70] w1 fun e w' => ∃ A' c', e = .returned (.slice A' (smallSt 70 mn).length c') ∧ Stmts w' (fun k => w1.heap.size ≤ k ∧ k < w'.heap.size) A' c' (smallSt 70 mn) ∧ Below w1.heap.size w1 w') := Lib.hid (by
    have h := smallStmts_any 70 (by omega) mn w1 (Lt w) B cb (HM1.out.kept (Below.chg HB1W.out) (fun _ _ x => x)) (by rw [← HNM0.out]; exact hlm) HSM.out
    rw [← HNM0.out] at h
    exact h)
  clear hb1
  go_wp2_with fail
  refine CM.out.mono ?_; rintro e w2 ⟨AM, cm, rfl, hst2, hb2⟩
  clear q1
  obtain ⟨km, hkm⟩ : ∃ km, km = (smallSt 70 mn).length := ⟨_, rfl⟩
  rw [← hkm]
  obtain ⟨bq, hbq⟩ : ∃ bq, bq = w2.heap.size := ⟨_, rfl⟩
  obtain ⟨wa, hwa⟩ : ∃ wa, wa = w2.alloc (.cells #[.slice none 0 0, .slice AM km cm] 25) := ⟨_, rfl⟩
  have hqa : wa.heap[bq]? = some (.cells #[.slice none 0 0, .slice AM km cm] 25 (0, 0)) := by rw [hwa]; exact heap_new' hbq.symm
  have hba : Below w2.heap.size w2 wa := by rw [hwa]; exact (Below.refl _ _).alloc (Nat.le_refl _) _
  have HBA : Hid (Below w.heap.size w wa) := Lib.hid (bel_trans HB1W.out (bel_trans hb2 hba))
  have HMA : Hid (Stmts wa (fun k => k < bq) AM cm (smallSt 70 mn)) := Lib.hid ((hst2.kept (Below.chg hba) (fun _ _ x => x)).mono (fun k hk => by omega))
  obtain ⟨bo, hbo⟩ : ∃ bo, bo = wa.heap.size := ⟨_, rfl⟩
  have hqo : bq < bo := by rw [hbo]; exact lt_of_heap hqa
  have HWBQ : Hid (w.heap.size ≤ bq) := Lib.hid (by rw [hbq]; have := HB1W.out.size; have := hb2.size; omega)
  have HST0 : Hid (RowI IsFn wa bo 38 3 (.slice none 0 0) [] (fun _ => False) []) := Lib.hid (RowI.start _ _ _ _ _)
  have HQA := Lib.hid hqa
  have HBO := Lib.hid hbo
  have HKM := Lib.hid hkm
  have HWA := Lib.hid (And.intro hbq hwa)
  clear hqa hba hst2 hb2 hkm hbq hwa hbo
  have hb0l : b0 < w.heap.size := lt_of_heap HBX0.out
  have HBXA : Hid (wa.heap[b0]? = some (.cells #[.slice A nf c, .slice B nm0 cb] 25 (0, 0))) := Lib.hid ((Below.chg HBA.out).heap HBX0.out (fun x => x))
  go_upto_region 3 with fail
  rw [← HWA.out.1, ← HWA.out.2]
  go_wp2_with fail
  go_loopg [5] nf (fun k vi wr => ∃ i : Nat, i ≤ nf ∧ k = nf - i ∧ vi = .int .i64 i ∧ ∃ V rows Y, Hid (wr.heap[bq]? = some (.cells #[V, .slice AM km cm] 25 (0, 0))) ∧ Hid (RowI IsFn wr bo 38 3 V rows Y ((fs.take i).map smallF)) ∧ Hid (Chg (fun k => k = bq ∨ bo ≤ k) wa wr))
  case atStart => exact ⟨0, by omega, rfl, rfl, _, _, _, HQA, HST0, Lib.hid (Chg.refl _ _)⟩
  case round =>
    clear HST0 HQA
    obtain ⟨i, hi0, hk2, rfl, V, rows, Y, HQ, HO, HCA⟩ := hrel
    obtain ⟨wo, hwo⟩ : ∃ wo : World, wo = wr := ⟨_, rfl⟩
    rw [← hwo] at HQ HO HCA ⊢
    clear hwo
    have HK := Lib.hid hk2
    clear hk2
    have hon : ((fs.take i).map smallF).length = i := by rw [List.length_map, List.length_take]; have := HNF.out; omega
    have hrow0 := HO.out.row
    rw [hon] at hrow0
    obtain ⟨_, OV, oc, rfl⟩ := ownsRow_slice hrow0
    have HON := Lib.hid hon
    clear hon hrow0
    have HBR : Hid (Below w.heap.size w wo) := Lib.hid (HBA.out.trans (HCA.out.below (B := w.heap.size) (fun k hk => by have := HWBQ.out; rcases hk with e | e <;> omega) HBA.out.size))
    have HBO0 : Hid (wo.heap[b0]? = some (.cells #[.slice A nf c, .slice B nm0 cb] 25 (0, 0))) := Lib.hid (HCA.out.heap HBXA.out (by have := HWBQ.out; omega))
    have hwoz : bo ≤ wo.heap.size := by rw [HBO.out]; exact HCA.out.size
    have q0 := cell_of_block HBO0.out 0
    simp at q0
    by_cases hlt : i < nf
    · have hil : i < fs.length := by rw [← HNF.out]; exact hlt
      obtain ⟨fb, fo, nm, ps, body, Ap, pn, pc, Bf, bl, c3b, rfl, hHTI, hpn, hbl, hPS, hBD, hSMF, hcf⟩ : ∃ fb fo nm ps body Ap pn pc Bf bl c3b, A = some ⟨fb, fo, none⟩ ∧ fs[i] = ⟨nm, ps, body⟩ ∧ pn = ps.length ∧ bl = body.length ∧ Strs w (Lt w) Ap pc ps ∧ Stmts w (Lt w) Bf c3b body ∧ SmF ⟨nm, ps, body⟩ ∧
          ∀ wx, Below w.heap.size w wx → wx.cell? ⟨fb, fo + i * 3, none⟩ = some (.string nm) ∧ wx.cell? ⟨fb, fo + i * 3 + 1, none⟩ = some (.slice Ap pn pc) ∧ wx.cell? ⟨fb, fo + i * 3 + 2, none⟩ = some (.slice Bf bl c3b) := by
        obtain ⟨fv, hr, hx⟩ := HF1.out
        obtain ⟨fb, fo, e, hat⟩ := hr.at_ (by omega)
        have hf := hx i fs[i] (List.getElem?_eq_getElem hil)
        have hsm := HSF.out i fs[i] (List.getElem?_eq_getElem hil)
        have ha := hat i hil
        generalize fs[i] = x at *
        generalize fv i = v at *
        obtain ⟨nm, ps, body⟩ := x
        obtain ⟨vn, va, vp, vc, vb, vbn, vbc⟩ := v
        obtain ⟨h1, h2, h3, h4, h5, h6⟩ := hf
        simp only at h1 h2 h3 h4 h5 h6
        subst h1
        refine ⟨fb, fo, _, ps, body, va, vp, vc, vb, vbn, vbc, e, rfl, h3, h5, h4, h6, hsm, fun wx hb => ?_⟩
        have := ha.kept (Below.chg hb) (fun _ _ x => x)
        exact ⟨this.2.2 0 _ rfl, this.2.2 1 _ rfl, this.2.2 2 _ rfl⟩
      have htk := List.take_succ_eq_append_getElem hil
      rw [hHTI] at htk
      have HTI := Lib.hid htk
      have HLP := Lib.hid hpn
      have HBL := Lib.hid hbl
      have HPS := Lib.hid hPS
      have HNM := Lib.hid hSMF.hn
      have HPZ := Lib.hid hSMF.hp
      have hpl := hSMF.hlp
      simp only at hpl
      rw [← hpn] at hpl
      have HBODY := Lib.hid (And.intro hBD (And.intro hSMF.hlb hSMF.hb))
      have SCL : Hid (∀ w', Below w.heap.size w w' → w'.cell? ⟨fb, fo + i * 3, none⟩ = some (.string nm) ∧ w'.cell? ⟨fb, fo + i * 3 + 1, none⟩ = some (.slice Ap pn pc) ∧ w'.cell? ⟨fb, fo + i * 3 + 2, none⟩ = some (.slice Bf bl c3b)) := Lib.hid hcf
      clear htk hHTI hpn hbl hPS hBD hSMF hcf hil
      obtain ⟨f0, f1, f2⟩ := SCL.out wo HBR.out
      obtain ⟨bf, hbf⟩ : ∃ bf, bf = wo.heap.size := ⟨_, rfl⟩
      obtain ⟨wi, hwi⟩ : ∃ wi, wi = wo.alloc (.cells #[.string (smallN nm), .slice none 0 0, .slice none 0 0] 38) := ⟨_, rfl⟩
      have hbi : Below wo.heap.size wo wi := by rw [hwi]; exact (Below.refl _ _).alloc (Nat.le_refl _) _
      have hfi : wi.heap[bf]? = some (.cells #[.string (smallN nm), .slice none 0 0, .slice none 0 0] 38 (0, 0)) := by rw [hwi]; exact heap_new' hbf.symm
      have HBI : Hid (Below w.heap.size w wi) := Lib.hid (HBR.out.trans (hbi.mono HBR.out.size))
      have HB1 := Lib.hid (And.intro hfi hbi)
      have HBOX := Lib.hid hfi
      have HQI : Hid (wi.heap[b0]? = some (.cells #[.slice (some ⟨fb, fo, none⟩) nf c, .slice B nm0 cb] 25 (0, 0))) := Lib.hid ((Below.chg hbi).heap HBO0.out (fun x => x))
      obtain ⟨b1, hb1⟩ : ∃ b1, b1 = wi.heap.size := ⟨_, rfl⟩
      have hbs1 : bf < b1 := by rw [hb1]; exact lt_of_heap hfi
      have HB1S := Lib.hid hb1
      have HBS := Lib.hid hbf
      have HWB := Lib.hid hwi
      have HB01 : Hid (b0 < bf ∧ b0 < b1) := Lib.hid (by rw [hbf] at hbs1 ⊢; have := HBR.out.size; omega)
      have HFB : Hid (fb < b1) := Lib.hid (by
        have h : fb < w.heap.size := World.block_lt_of_cell? _ _ (SCL.out w (Below.refl _ _)).1
        have := HBI.out.size
        omega)
      have hqa := hbs1
      clear hbi hfi hb1 hbf hwi
      go_wp2_with fail
      refine (small_any nm HNM.out _).mono ?_; rintro e w9 ⟨rfl, hw9⟩
      rw [hw9]
      clear hw9
      go_upto_region 7 with fail
      rw [← HWB.out, ← HBS.out]
      clear hqa f0 f1 f2
      have HRI : Hid (RowI IsStr wi b1 9 1 (.slice none 0 0) [] (fun _ => False) []) := Lib.hid (RowI.start _ _ _ _ _)
      obtain ⟨q0, f1, f2⟩ := SCL.out wi HBI.out
      go_wp2_with fail
      go_loopg [7] pn (fun k vk wk => ∃ kk : Nat, kk ≤ pn ∧ k = pn - kk ∧ vk = .int .i64 kk ∧ ∃ V rows2 Y2, Hid (wk.heap[bf]? = some (.cells #[.string (smallN nm), V, .slice none 0 0] 38 (0, 0))) ∧ Hid (RowI IsStr wk b1 9 1 V rows2 Y2 ((ps.take kk).map smallN)) ∧ Hid (Chg (fun k => k = bf ∨ b1 ≤ k) wi wk))
      case atStart => exact ⟨0, by omega, rfl, rfl, _, _, _, HBOX, HRI, Lib.hid (Chg.refl _ _)⟩
      case round =>
        clear HRI HBOX q0 f1 f2
        obtain ⟨kk, hkk, hk3, rfl, V, rows2, Y2, HBX, HP, HC⟩ := hrel
        obtain ⟨wk, hwk⟩ : ∃ wk : World, wk = wr := ⟨_, rfl⟩
        rw [← hwk] at HBX HP HC ⊢
        clear hwk
        have HKI := Lib.hid hk3
        clear hk3
        have HBK : Hid (Below w.heap.size w wk) := Lib.hid (HBI.out.trans (HC.out.below (B := w.heap.size) (fun k hk => by have := HBS.out; have := HBR.out.size; rcases hk with e | e <;> omega) HBI.out.size))
        have HBKA : Hid (Below w.heap.size w wk) := HBK
        have hjn : ((ps.take kk).map smallN).length = kk := by rw [List.length_map, List.length_take]; have := HLP.out; omega
        have hrow0 := HP.out.row
        rw [hjn] at hrow0
        obtain ⟨_, AV, cV, rfl⟩ := ownsRow_slice hrow0
        have HJN := Lib.hid hjn
        have hsk : b1 ≤ wk.heap.size := by rw [HB1S.out]; exact HC.out.size
        have HQK : Hid (wk.heap[b0]? = some (.cells #[.slice (some ⟨fb, fo, none⟩) nf c, .slice B nm0 cb] 25 (0, 0))) := Lib.hid (HC.out.heap HQI.out (by rcases HB01.out with h; omega))
        clear hjn hrow0
        obtain ⟨_, f1, f2⟩ := SCL.out wk HBK.out
        have q0 := cell_of_block HQK.out 0
        simp at q0
        by_cases hltk : kk < pn
        · have hkl : kk < ps.length := by rw [← HLP.out]; exact hltk
          obtain ⟨pb, po, rfl, hcp⟩ := HPS.out.get kk hkl
          have HPB : Hid (pb < b1) := Lib.hid (by
            have h : pb < w.heap.size := World.block_lt_of_cell? _ _ (hcp w (Below.refl _ _))
            have := HBI.out.size
            have := HB1S.out
            omega)
          have hsz := HPZ.out ps[kk] (List.getElem_mem _)
          have htk := List.take_succ_eq_append_getElem hkl
          obtain ⟨s, hs⟩ : ∃ s, ps[kk] = s := ⟨_, rfl⟩
          rw [hs] at hcp hsz htk
          have HSZ := Lib.hid hsz
          have HTK := Lib.hid htk
          have SCX : Hid (∀ w', Below wk.heap.size wk w' → w'.cell? ⟨bf, 1, none⟩ = some (.slice AV kk cV) ∧ w'.cell? ⟨b0, 0, none⟩ = some (.slice (some ⟨fb, fo, none⟩) nf c) ∧ w'.cell? ⟨fb, fo + i * 3 + 1, none⟩ = some (.slice (some ⟨pb, po, none⟩) pn pc) ∧ w'.cell? ⟨pb, po + kk, none⟩ = some (.string s)) := Lib.hid (fun wx hb => ⟨cell_of_block ((Below.chg hb).heap HBX.out (fun x => x)) 1, cell_of_block ((Below.chg hb).heap HQK.out (fun x => x)) 0, (SCL.out wx (HBK.out.trans (hb.mono HBK.out.size))).2.1, hcp wx (HBK.out.trans (hb.mono HBK.out.size))⟩)
          clear hs hcp hsz htk hkl
          go_upto_region 10 with fail
          obtain ⟨i0, hi, hz0, hz1, hz2⟩ := info_parts infoStr
          obtain ⟨wd, hwd⟩ : ∃ wd, wd = wk.drew := ⟨_, rfl⟩
          have hb : Below wk.heap.size wk wd := by rw [hwd]; exact (Below.refl _ _).drew
          have hS := SCX.out wd hb
          refine wp_region_ord (S := fun w' => w'.cell? ⟨bf, 1, none⟩ = some (.slice AV kk cV) ∧ w'.cell? ⟨b0, 0, none⟩ = some (.slice (some ⟨fb, fo, none⟩) nf c) ∧ w'.cell? ⟨fb, fo + i * 3 + 1, none⟩ = some (.slice (some ⟨pb, po, none⟩) pn pc) ∧ w'.cell? ⟨pb, po + kk, none⟩ = some (.string s)) (N := fun i => i != 15) (by kernel_rfl) [(0, true), (1, true), (2, true), (3, true), (4, true), (5, true), (6, true), (7, true), (8, true), (9, true), (10, true), (11, false), (12, false), (13, false), (14, true), (15, false)] (by kernel_rfl) ?_
          rw [← hwd]
          clear hwd
          iterate 11 (refine ord_look rfl hS rfl (by intro w hS; obtain ⟨p0, p1, p2, p3⟩ := hS; go_simp; with_reducible rfl) (fun c a w h => h) ?_; simp only [Act.put, List.setIfInBounds_toArray, List.set_cons_succ, List.set_cons_zero])
          refine ord_act rfl rfl (fun K hK => ?_)
          refine wp_call 16 _ _ Try.func16 rfl (by kernel_rfl) _ _ rfl #[.string s] (by simp [Act.eval]) (R := fun v w1 => v = .string (smallN s) ∧ w1 = wd) (calls_ret (small_any s HSZ.out _) (by rintro e w1 ⟨rfl, h⟩; exact ⟨_, rfl, rfl, h⟩)) ?_
          rintro v w1 ⟨rfl, hw1⟩
          rw [hw1]
          clear hw1
          refine hK _ _ ⟨fun _ => hS, ?_⟩
          clear hK K
          try simp only [Act.put, List.setIfInBounds_toArray, List.set_cons_succ, List.set_cons_zero]
          refine ord_act rfl rfl (fun K hK => ?_)
          go_simp
          obtain ⟨wx, hwx⟩ : ∃ wx, wx = wd.alloc (.cells #[.string (smallN s)] 9) := ⟨_, rfl⟩
          obtain ⟨g, hg⟩ : ∃ g, g = wd.heap.size := ⟨_, rfl⟩
          rw [← hwx, ← hg]
          have hbx : Below wd.heap.size wd wx := by rw [hwx]; exact (Below.refl _ _).alloc (Nat.le_refl _) _
          have hgx : wx.heap[g]? = some (.cells #[.string (smallN s)] 9 (0, 0)) := by rw [hwx]; exact heap_new' hg.symm
          have hbkx := bel_trans hb hbx
          replace hS := SCX.out wx hbkx
          refine hK _ _ ⟨fun _ => hS, ?_⟩
          clear hK K hwx hg
          try simp only [Act.put, List.setIfInBounds_toArray, List.set_cons_succ, List.set_cons_zero]
          have hPx := HP.out.keep stab_str hbkx
          have hBx := (Below.chg hbkx).heap HBX.out (fun x => x)
          have hrowx := hPx.row
          rw [HJN.out] at hrowx
          have hnews : ∀ (j : Nat) u, ([.string (smallN s)] : List Value)[j]? = some u → wx.cell? ⟨g, 0 + j, none⟩ = some u := fun j u hu => by
            have := World.news_of_block hgx j u hu
            rwa [add0, Nat.zero_add] at *
          refine ord_act rfl rfl (fun K hK => ?_)
          refine wp_app (.tmp 40) (.tmp 51) 36 rfl b1 9 i0 _ 1 16 Try.underlying36 hi hz0 hz1 hz2 rfl (by omega) (.slice AV kk cV) kk rows2.flatten rfl hrowx (some ⟨g, 0, none⟩) 1 1 [.string (smallN s)] rfl rfl (fun _ => ⟨g, 0, rfl, hnews⟩) (by simp [Value.oneCell']) (by unfold maxLen; omega) (by omega) (by have := hbkx.size; omega) (fun v1 w2 ho1 hg1 hat1 => ?_)
          have hcg := Chg.of_grown hg1
          have hown : ∀ k, (Value.slice AV kk cV).ownBlock = some k → b1 ≤ k := fun k hk => (hrowx.lt k hk).1
          have hb2 := hcg.heap hBx (fun e => by have := hown _ e; omega)
          have hS3 : w2.cell? ⟨bf, 1, none⟩ = some (.slice AV kk cV) ∧ w2.cell? ⟨b0, 0, none⟩ = some (.slice (some ⟨fb, fo, none⟩) nf c) ∧ w2.cell? ⟨fb, fo + i * 3 + 1, none⟩ = some (.slice (some ⟨pb, po, none⟩) pn pc) ∧ w2.cell? ⟨pb, po + kk, none⟩ = some (.string s) := ⟨hcg.cell hS.1 (fun e => by have h : b1 ≤ bf := hown _ e; omega), hcg.cell hS.2.1 (fun e => by have h : b1 ≤ b0 := hown _ e; have := HB01.out; omega), hcg.cell hS.2.2.1 (fun e => by have h : b1 ≤ fb := hown _ e; have := HFB.out; omega), hcg.cell hS.2.2.2 (fun e => by have h : b1 ≤ pb := hown _ e; have := HPB.out; omega)⟩
          have kf1 := frozen_of_block hb2 1
          obtain ⟨_, D1, d9, rfl⟩ := ownsRow_slice ho1
          refine hK _ _ ⟨fun _ => hS3, ?_⟩
          clear hK K hS
          try simp only [Act.put, List.setIfInBounds_toArray, List.set_cons_succ, List.set_cons_zero]
          (refine ord_look rfl hS3 rfl (by intro w hS; obtain ⟨p0, p1, p2, p3⟩ := hS; go_simp; with_reducible rfl) (fun c a w h => h) ?_; simp only [Act.put, List.setIfInBounds_toArray, List.set_cons_succ, List.set_cons_zero])
          refine ord_act rfl rfl (fun K hK => ?_)
          have k1 := hS3.1
          have hstep := hPx.step stab_str (V' := .slice D1 (kk + 1) d9) (Xe := fun _ => False) (t := smallN s) ⟨rfl, by rw [smallN_size]; have := HSZ.out; omega⟩ rfl (fun k hk => hk.elim) (by rw [HJN.out]; exact ho1) hg1 hat1
          rw [show (ps.take kk).map smallN ++ [smallN s] = (ps.take (kk + 1)).map smallN by rw [HTK.out, List.map_append]; rfl] at hstep
          obtain ⟨w5, hw5⟩ : ∃ w5, w5 = w2.setCell ⟨bf, 1, none⟩ (.slice D1 (kk + 1) d9) := ⟨_, rfl⟩
          have hset : Chg (fun k => k = bf) w2 w5 := by rw [hw5]; exact Chg.set_cell ⟨bf, 1, none⟩ _
          have hbox5 : w5.heap[bf]? = some (.cells #[.string (smallN nm), .slice D1 (kk + 1) d9, .slice none 0 0] 38 (0, 0)) := by rw [hw5]; exact heap_set hb2 1 _
          have hstep5 := hstep.kept stab_str hset (fun k hk e => by have := (hstep.own k hk).1; omega) (fun k hk e => by have := (hstep.foot k hk).1; omega)
          have hch5 : Chg (fun k => k = bf ∨ b1 ≤ k) wk w5 := (Below.chg hbkx).trans (hcg.trans hset (T := fun k => k = bf ∨ b1 ≤ k) (fun i _ e => .inr (hown i e)) (fun i _ e => .inl e)) (fun _ _ x => x.elim) (fun _ _ x => x)
          have HRES := Lib.hid (And.intro hbox5 (And.intro hstep5 hch5))
          clear hset hbox5 hstep5 hch5 hstep hrowx hnews hPx hBx hown hcg
          go_simp
          rw [← hw5]
          clear hw5
          refine hK _ _ ⟨fun h => absurd h (by decide), ?_⟩
          clear hK K
          refine ord_end ?_
          have HR1 := Lib.hid HRES.out.1
          have HR2 := Lib.hid HRES.out.2.1
          have HR3 : Hid (Chg (fun k => k = bf ∨ b1 ≤ k) wi w5) := Lib.hid (HC.out.then HRES.out.2.2)
          clear k1 kf1 hS3 HRES
          go_wp2_with fail
          go_roundg (pn - (kk + 1))
          case measure => have := HKI.out; omega
          case rel => exact ⟨kk + 1, by omega, rfl, by go_num, _, _, _, HR1, HR2, HR3⟩
        · obtain rfl : kk = pn := by omega
          have htk : ps.take kk = ps := List.take_of_length_le (by rw [← HLP.out]; exact Nat.le_refl _)
          have hpp := HP.out
          rw [htk] at hpp
          have HPL := Lib.hid hpp
          clear hpp htk
          have CB : Hid (Calls Try.prog 15 #[.slice Bf bl c3b, .int .i64 70] wk fun e w' => ∃ A' c', e = .returned (.slice A' (smallSt 70 body).length c') ∧ Stmts w' (fun k => wk.heap.size ≤ k ∧ k < w'.heap.size) A' c' (smallSt 70 body) ∧ Below wk.heap.size wk w') := Lib.hid (by
            have h := smallStmts_any 70 (by omega) body wk (Lt w) Bf c3b (HBODY.out.1.kept (Below.chg HBK.out) (fun _ _ x => x)) HBODY.out.2.1 HBODY.out.2.2
            rw [← HBL.out] at h
            exact h)
          have s2 := cell_of_block HBX.out 2
          have g2 := frozen_of_block HBX.out 2
          simp at s2
          go_wp2_with fail
          refine CB.out.mono ?_; rintro e w3 ⟨A4, c4p, rfl, hst4, hb4⟩
          clear q0 f1 f2 s2 g2
          have hB3 := (Below.chg hb4).heap HBX.out (fun x => x)
          have s2 := cell_of_block hB3 2
          have g2 := frozen_of_block hB3 2
          simp at s2
          obtain ⟨w6, hw6⟩ : ∃ w6, w6 = w3.setCell ⟨bf, 2, none⟩ (.slice A4 (smallSt 70 body).length c4p) := ⟨_, rfl⟩
          have hset6 : Chg (fun k => k = bf) w3 w6 := by rw [hw6]; exact Chg.set_cell ⟨bf, 2, none⟩ _
          have hB6 : w6.heap[bf]? = some (.cells #[.string (smallN nm), .slice AV kk cV, .slice A4 (smallSt 70 body).length c4p] 38 (0, 0)) := by rw [hw6]; exact heap_set hB3 2 _
          have hL6 := ((HPL.out.keep stab_str hb4).kept stab_str hset6 (fun k hk e => by have := (HPL.out.own k hk).1; omega) (fun k hk e => by have := (HPL.out.foot k hk).1; omega))
          have hbd6 := hst4.kept hset6 (fun k hk e => by omega)
          have hch6 : Chg (fun k => k = bf ∨ b1 ≤ k) wk w6 := (Below.chg hb4).trans hset6 (fun _ _ x => x.elim) (fun _ _ x => .inl x)
          have HC6 : Hid (Chg (fun k => k = bf ∨ b1 ≤ k) wi w6) := Lib.hid (HC.out.then hch6)
          have hRW6 : Below wo.heap.size wo w6 := HB1.out.2.trans (HC6.out.below (B := wo.heap.size) (fun k hk => by have := HBS.out; rcases hk with e | e <;> omega) HB1.out.2.size)
          have hls : (ps.map smallN).length ≤ 8796093022208 := by rw [List.length_map, ← HLP.out]; omega
          have hfn : IsFn w6 (fun k => wo.heap.size ≤ k ∧ k < w6.heap.size) (smallF ⟨nm, ps, body⟩) [.string (smallN nm), .slice AV kk cV, .slice A4 (smallSt 70 body).length c4p] := by
            obtain ⟨Ad, cd, fd, hd, hr, hx⟩ := hL6.done stab_str hls
            have hd : Value.slice AV kk cV = .slice Ad (ps.map smallN).length cd := hd
            injection hd with hd1 hd2 hd3
            subst hd1 hd3
            have hmono : ∀ k, (_ ∨ (Value.slice AV kk cV).ownBlock = some k) → wo.heap.size ≤ k ∧ k < w6.heap.size := fun k hk => by
              have := HBS.out
              rcases hk with hk | hk
              · have := hL6.foot k hk; omega
              · have := hL6.own k hk; omega
            refine ⟨⟨smallN nm, AV, kk, cV, A4, (smallSt 70 body).length, c4p⟩, rfl, ⟨rfl, by show (smallN nm).size ≤ _; rw [smallN_size]; have := HNM.out; omega, hd2, ⟨(hr.mono hmono).congr (fun j hj => ?_), fun s hs => ?_⟩, rfl, hbd6.mono (fun k hk => ?_)⟩⟩
            · obtain ⟨e, _⟩ := hx j (ps.map smallN)[j] (List.getElem?_eq_getElem hj)
              rw [e, List.getD_eq_getElem?_getD]
              show _ = [Value.string (((ps.map smallN)[j]?).getD ByteArray.empty)]
              rw [List.getElem?_eq_getElem hj]
              rfl
            · obtain ⟨j, hj, rfl⟩ := List.getElem_of_mem hs
              exact (hx j _ (List.getElem?_eq_getElem hj)).2
            · have := hch6.size; have := hset6.size; have := HBS.out; omega
          obtain ⟨i0, hi, hz0, hz1, hz2⟩ := info_parts infoFunc
          obtain ⟨wx, hwx⟩ : ∃ wx, wx = w6.alloc (.cells #[.string (smallN nm), .slice AV kk cV, .slice A4 (smallSt 70 body).length c4p] 38) := ⟨_, rfl⟩
          have hbx : Below w6.heap.size w6 wx := by rw [hwx]; exact (Below.refl _ _).alloc (Nat.le_refl _) _
          have hOx := HO.out.keep stab_fn (bel_trans hRW6 hbx)
          have hQ6 := (Below.chg hRW6).heap HQ.out (fun x => x)
          have hQx := (Below.chg hbx).heap hQ6 (fun x => x)
          have hrowx := hOx.row
          rw [HON.out] at hrowx
          have hnews : ∀ (j : Nat) u, ([.string (smallN nm), .slice AV kk cV, .slice A4 (smallSt 70 body).length c4p] : List Value)[j]? = some u → wx.cell? ((⟨w6.heap.size, 0, none⟩ : Addr).add j) = some u := by rw [hwx]; exact World.news_of_block (cs := #[.string (smallN nm), .slice AV kk cV, .slice A4 (smallSt 70 body).length c4p]) (t := 38) (fr := (0, 0)) (heap_new _ _)
          have HFX := Lib.hid (And.intro ((stab_fn).kept _ _ _ _ _ _ hfn (Below.chg hbx) (fun _ _ x => x)) (And.intro hOx (And.intro (bel_trans hRW6 hbx) (And.intro hbx.size hQx))))
          have HROWX := Lib.hid hrowx
          have HNEWX := Lib.hid hnews
          have HBSX : Hid (bo ≤ wx.heap.size) := Lib.hid (by have := (bel_trans hRW6 hbx).size; omega)
          have HQO : Hid (¬ (Value.slice OV i oc).ownBlock = some bq) := Lib.hid (fun e => by have := (HO.out.own _ e).1; omega)
          have HW6 := Lib.hid hw6
          have HWX := Lib.hid hwx
          have t0 := cell_of_block hB6 0
          have t1 := cell_of_block hB6 1
          have t2 := cell_of_block hB6 2
          have u0 := cell_of_block hQ6 0
          simp at t0 t1 t2 u0
          clear hB3 hset6 hB6 hL6 hbd6 hch6 hls hbx hOx hQ6 hQx hrowx hnews hfn hw6 hwx hRW6 hst4 hb4
          go_upto_region 12 with fail
          rw [← HW6.out]
          clear s2 g2
          go_wp2_with (at_builtin; rw [← HWX.out]; refine wpList_append_own_at _ rfl _ _ _ rfl bo 38 i0 _ 3 64 Try.underlying22 hi hz0 hz1 hz2 rfl (by omega) (.slice OV i oc) i rows.flatten rfl HROWX.out ⟨w6.heap.size, 0, none⟩ 1 1 [.string (smallN nm), .slice AV kk cV, .slice A4 (smallSt 70 body).length c4p] rfl rfl HNEWX.out (by simp [Value.oneCell']) (by unfold maxLen; omega) (by omega) HBSX.out ?_; intro v1 w7 ho1 hg1 hnn hat1; have hb2 := (Chg.of_grown hg1).heap HFX.out.2.2.2.2 HQO.out; have k1 := cell_of_block hb2 0; have kf1 := frozen_of_block hb2 0; simp at k1; obtain ⟨_, D7, d7, rfl⟩ := ownsRow_slice ho1)
          have hstep := HFX.out.2.1.step stab_fn (V' := .slice D7 (i + 1) d7) HFX.out.1 rfl (fun k hk => ⟨by omega, Nat.lt_of_lt_of_le hk.2 HFX.out.2.2.2.1, fun e => by have := (HO.out.own k e).2; omega⟩) (by rw [HON.out]; exact ho1) hg1 hat1
          obtain ⟨w8, hw8⟩ : ∃ w8, w8 = w7.setCell ⟨bq, 0, none⟩ (.slice D7 (i + 1) d7) := ⟨_, rfl⟩
          rw [← hw8]
          have hset8 : Chg (fun k => k = bq) w7 w8 := by rw [hw8]; exact Chg.set_cell ⟨bq, 0, none⟩ _
          have hbox8 : w8.heap[bq]? = some (.cells #[.slice D7 (i + 1) d7, .slice AM km cm] 25 (0, 0)) := by rw [hw8]; exact heap_set hb2 0 _
          have hstep8 := hstep.kept stab_fn hset8 (fun k hk e => by have := (hstep.own k hk).1; omega) (fun k hk e => by have := (hstep.foot k hk).1; omega)
          rw [show (fs.take i).map smallF ++ [smallF ⟨nm, ps, body⟩] = (fs.take (i + 1)).map smallF by rw [HTI.out, List.map_append]; rfl] at hstep8
          have hch8 : Chg (fun k => k = bq ∨ bo ≤ k) wo w8 := (Below.chg HFX.out.2.2.1).trans ((Chg.of_grown hg1).trans hset8 (T := fun k => k = bq ∨ bo ≤ k) (fun i _ e => .inr (HROWX.out.lt i e).1) (fun i _ e => .inl e)) (fun _ _ x => x.elim) (fun _ _ x => x)
          have HB8 := Lib.hid hbox8
          have HS8 := Lib.hid hstep8
          have HC8 : Hid (Chg (fun k => k = bq ∨ bo ≤ k) wa w8) := Lib.hid (HCA.out.then hch8)
          clear hset8 hbox8 hstep hstep8 hch8 hw8 t0 t1 t2 u0
          go_wp2_with fail
          go_roundg (nf - (i + 1))
          case measure => have := HK.out; omega
          case rel => exact ⟨i + 1, by omega, rfl, by go_num, _, _, _, HB8, HS8, HC8⟩
    · obtain rfl : i = nf := by omega
      have htk : (fs.take i).map smallF = fs.map smallF := by rw [List.take_of_length_le (by rw [← HNF.out]; exact Nat.le_refl _)]
      have hdone := HO.out
      rw [htk] at hdone
      obtain ⟨A', c', f', hv, hr, hx⟩ := hdone.done stab_fn (by rw [List.length_map, ← HNF.out]; omega)
      have hmn : Stmts wo (Lt wo) AM cm (smallSt 70 mn) := (HMA.out.kept HCA.out (fun k hk e => by rcases e with e | e <;> omega)).mono (fun k hk => by show k < wo.heap.size; omega)
      have hfn : Funcs wo (Lt wo) A' c' (fs.map smallF) := Funcs.mono (funcs_done hr hx) (fun k hk => by
        rcases hk with hk | hk
        · exact (hdone.foot k hk).2.1
        · exact (hdone.own k hk).2)
      have hck := check_any (w := wo) (X := Lt wo) ⟨fs.map smallF, smallSt 70 mn⟩ hfn hmn (fun _ h => h)
      rw [check_small] at hck
      simp only at hck
      injection hv with hv1 hv2 hv3
      rw [← hv1, ← hv2, ← hv3, ← HKM.out] at hck
      have CK := Lib.hid hck
      have u0 := cell_of_block HQ.out 0
      have u1 := cell_of_block HQ.out 1
      simp at u0 u1
      clear hck hfn hmn hr hx hv1 hv2 hv3 hdone htk
      go_wp2_with fail
      refine CK.out.mono ?_; rintro e w9 ⟨rfl, hb9⟩
      have HB9 := Lib.hid hb9
      clear hb9 u0 u1 q0
      go_wp2_with fail
      go_ret
      exact ⟨rfl, bel_trans HBW.out (bel_trans HBR.out HB9.out)⟩
end Go.Proofs.Ytnpmgnfohaeonaa
