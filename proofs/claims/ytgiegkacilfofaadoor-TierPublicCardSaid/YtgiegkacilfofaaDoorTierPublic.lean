/- law19: TierPublic. -/
import Derived.Test.YtgiegkacilfofaaDoorTG3
import Derived.Test.YtgiegkacilfofaaDoorTG2
namespace Go.Proofs.YtgiegkacilfofaaDoor
set_option linter.unusedVariables false
set_option linter.unusedSimpArgs false
open Go.RowKit Go.Conc

/-- is an argument public? -/
def openB (pub : List (List Bool)) (fn : Int) (k : Nat) : Bool := decide (0 ≤ fn) && openV pub fn.toNat k
def mixV (pub : List (List Bool)) (fn : Int) (args oth : List Int) (k : Nat) : Int := if openB pub fn k = false ∧ k < oth.length then oth.getD k 0 else args.getD k 0
def mixL (pub : List (List Bool)) (fn : Int) (args oth : List Int) (j : Nat) : List Int := (List.range j).map (mixV pub fn args oth)
theorem mixL_snoc (pub : List (List Bool)) (fn : Int) (args oth : List Int) (j : Nat) : mixL pub fn args oth (j + 1) = mixL pub fn args oth j ++ [mixV pub fn args oth j] := by
  unfold mixL
  rw [List.range_succ, List.map_append]
  rfl
theorem mixL_len (pub : List (List Bool)) (fn : Int) (args oth : List Int) (j : Nat) : (mixL pub fn args oth j).length = j := by unfold mixL; rw [List.length_map, List.length_range]
theorem getD_in {l : List Int} (h : ∀ x ∈ l, In64 x) (k : Nat) : In64 (l.getD k 0) := by
  rw [List.getD_eq_getElem?_getD]
  rcases hq : l[k]? with _ | x
  · show In64 0; unfold In64; omega
  · exact h x (List.mem_of_getElem? hq)
theorem mix_enter {cap : Int} {T : TS} {fn : Int} {args oth : List Int} {m : Nat} (hm : (m : Int) = min (args.length : Int) 20) : enterV cap T fn (args.take m) = enterV cap T fn (mixL T.pub fn args oth m) := by
  refine enter_public (fun hf i hi ho => ?_)
  have hmx : (mixL T.pub fn args oth m).getD i 0 = if i < m then mixV T.pub fn args oth i else 0 := by
    rw [List.getD_eq_getElem?_getD]
    unfold mixL
    rw [List.getElem?_map]
    by_cases h : i < m
    · rw [List.getElem?_range h, if_pos h]; rfl
    · rw [List.getElem?_eq_none (by rw [List.length_range]; omega), if_neg h]; rfl
  rw [hmx]
  have hob : openB T.pub fn i = true := by unfold openB; rw [ho, decide_eq_true (by omega)]; rfl
  split
  · unfold mixV
    rw [if_neg (by rw [hob]; simp), List.getD_eq_getElem?_getD, List.getD_eq_getElem?_getD, List.getElem?_take_of_lt (by assumption)]
  · rw [List.getD_eq_getElem?_getD, List.getElem?_eq_none (by rw [List.length_take]; omega)]
    rfl
/-- where a public parameter lies -/
theorem PubIs.row {w : World} {A : Option Addr} {c : Nat} {pub : List (List Bool)} (h : PubIs w (.slice A pub.length c) pub) (f : Nat) (hf : f < pub.length) : ∃ b off A2 c2, A = some ⟨b, off, none⟩ ∧ pub.length ≤ c ∧ w.cell? ⟨b, off + f, none⟩ = some (.slice A2 pub[f].length c2) ∧ (pub[f].length ≤ c2 ∧ c2 ≤ maxLen) ∧
    (∀ k, k < pub[f].length → ∃ b2 o2, A2 = some ⟨b2, o2, none⟩ ∧ w.cell? ⟨b2, o2 + k, none⟩ = some (.bool (openV pub f k))) := by
  obtain ⟨A', c', e, h1, h2, h3⟩ := h
  injection e with e1 _ e3
  subst e1 e3
  obtain ⟨b, off, rfl, h4⟩ := h3 (by omega)
  obtain ⟨V2, h5, A2, c2, rfl, h6, h7, h8⟩ := h4 f pub[f] (List.getElem?_eq_getElem hf)
  refine ⟨b, off, A2, c2, rfl, h1, h5, ⟨h6, h7⟩, fun k hk => ?_⟩
  obtain ⟨b2, o2, rfl, h9⟩ := h8 (by omega)
  refine ⟨b2, o2, rfl, ?_⟩
  rw [h9 k pub[f][k] (List.getElem?_eq_getElem hk), openV_in hf, List.getD_eq_getElem?_getD, List.getElem?_eq_getElem hk]
  rfl

set_option maxHeartbeats 8000000 in
set_option maxRecDepth 100000 in
theorem tierPublic_walk (W : World) (fs : List FnR) (cs : List Value) (AP : Option Addr) (cP : Nat) (pub : List (List Bool)) (q : Int) (A3 : Option Addr) (c3 : Nat) (picks : List Int) (A4 : Option Addr) (c4 : Nat) (asks : List AskR) (hL : TxtIs W) (hf : rdCode.K W fs cs) (hp : PubAt W AP cP pub) (wq : (Lit.int .i64 q).wf = true) (hk : NumsAt W A3 c3 picks) (ha : AsksAt W A4 c4 asks) :
    Calls Tryd.prog 3 #[.agg cs.toArray, .slice AP pub.length cP, .int .i64 q, .slice A3 picks.length c3, .slice A4 asks.length c4] W fun e w' => e = .returned (.bool true) ∧ Below W.heap.size W w' := by
  have hf : CodeAt W fs cs := hf
  obtain ⟨A, c, rfl, hfs, hfull⟩ := hf
  simp only [List.toArray]
  obtain ⟨wa, hwa⟩ : ∃ z, z = W.alloc (.cells #[.slice A fs.length c] 24) := ⟨_, rfl⟩
  obtain ⟨Q1, hQ1⟩ : ∃ z, z = W.heap.size := ⟨_, rfl⟩
  have ca : Chg (fun _ => False) W wa := by rw [hwa]; exact (Chg.refl _ _).alloc _
  have x1 : wa.heap[Q1]? = some (.cells #[.slice A fs.length c] 24 (0, 0)) := by rw [hwa]; exact heap_new' hQ1.symm
  obtain ⟨nk, hnk⟩ : ∃ z, z = picks.length := ⟨_, rfl⟩
  obtain ⟨na, hna⟩ : ∃ z, z = asks.length := ⟨_, rfl⟩
  rw [← hnk, ← hna]
  obtain ⟨kf, hkf⟩ : ∃ z, z = fs.length := ⟨_, rfl⟩
  rw [← hkf] at hwa x1 hfs ⊢
  have hnk63 : nk ≤ 9223372036854775807 := by have := hk.2.2; omega
  have hna63 : na ≤ 9223372036854775807 := by have h1 := ha.1; have h2 := ha.2.1; unfold maxLen at h2; omega
  have HN := Lib.hid (And.intro hnk (And.intro hna hkf))
  have HFS := Lib.hid (And.intro hfs hfull)
  have HPU := Lib.hid hp
  have HPK := Lib.hid hk
  have HAS := Lib.hid ha
  have HX := Lib.hid x1
  have HBA : Hid (Below W.heap.size W wa) := Lib.hid ca.to_below
  have CS := Lib.hid (tshown_any (hL.keep ca.to_below))
  have HTX := Lib.hid hL
  have HW := Lib.hid (And.intro hwa hQ1)
  clear hfs hfull hp hk ha x1 ca hwa hQ1 hnk hna hkf hL
  go_enter Tryd.func3, Tryd.ntmps3
  go_wp2_with fail
  rw [← HW.out.1, ← HW.out.2]
  refine CS.out.mono ?_
  rintro e wb ⟨rfl, hbb⟩
  have HBB : Hid (Below W.heap.size W wb) := Lib.hid (HBA.out.trans (hbb.mono HBA.out.size))
  have hxb := (Below.chg hbb).heap HX.out (fun x => x)
  have y1 := cell_of_block hxb 0
  simp at y1
  have CF := Lib.hid (tfew_any (HFS.out.1.keep HBB.out) HN.out.2.2)
  have HXB := Lib.hid hxb
  clear hbb CS HX hxb
  go_wp2_with fail
  refine CF.out.mono ?_
  rintro e wc ⟨VF, rfl, hfi, hbc⟩
  obtain ⟨_, AF, cF, rfl⟩ := hfi.bound
  have hxc := (Below.chg hbc).heap HXB.out (fun x => x)
  obtain ⟨wf, hwf⟩ : ∃ z, z = wc.setCell ⟨Q1, 0, none⟩ (.slice AF (tfewv fs).length cF) := ⟨_, rfl⟩
  have hset : Chg (fun k => k = Q1) wc wf := by rw [hwf]; exact Chg.set_cell (w := wc) ⟨Q1, 0, none⟩ _
  have hxf : wf.heap[Q1]? = some (.cells #[.slice AF (tfewv fs).length cF] 24 (0, 0)) := by rw [hwf]; exact heap_set hxc 0 _
  have HFI := Lib.hid (hfi.chgQ hxc hset)
  have HBF : Hid (Below W.heap.size W wf) := Lib.hid ((HBB.out.trans (hbc.mono HBB.out.size)).trans (hset.below (fun k e => by have e : k = Q1 := e; have := HW.out.2; omega) (Nat.le_trans HBB.out.size hbc.size)))
  have HWF := Lib.hid hwf
  have HXF := Lib.hid hxf
  have y1 := cell_of_block hxc 0
  have yf := frozen_of_block hxc 0
  simp at y1
  clear hfi hbc hwf hset hxc hxf CF
  go_upto_region 3 with fail
  rw [← HWF.out]
  clear y1 yf
  obtain ⟨m2, hm2⟩ : ∃ m2 : Nat, (if (200 : Int) < (nk : Int) then (200 : Int) else (nk : Int)) = (m2 : Int) := ⟨(if (200 : Int) < (nk : Int) then (200 : Int) else (nk : Int)).toNat, by split <;> omega⟩
  have hm2l : m2 ≤ nk ∧ m2 ≤ 200 := by split at hm2 <;> omega
  have hm3 : min (nk : Int) 200 = (m2 : Int) := by split at hm2 <;> omega
  obtain ⟨S, hS⟩ : ∃ S : World → Prop, S = fun w' => w'.cell? ⟨Q1, 0, none⟩ = some (.slice AF (tfewv fs).length cF) := ⟨_, rfl⟩
  have HSE := Lib.hid hS
  have HSB : Hid (∀ w', Below wf.heap.size wf w' → S w') := Lib.hid (by
    intro w' hb
    rw [hS]
    exact (Below.chg hb).cell (cell_of_block HXF.out 0) (fun x => x))
  obtain ⟨wd, hwd⟩ : ∃ z, z = wf.drew := ⟨_, rfl⟩
  have hcd : Chg (fun _ => False) wf wd := by rw [hwd]; exact (Chg.refl _ _).drew
  have hSd := HSB.out wd hcd.to_below
  have hsm := tfewv_small HFS.out.2
  have hpk := HPK.out.keep (HBF.out.trans (hcd.below (fun _ x => x.elim) HBF.out.size))
  obtain ⟨fv, hfv⟩ : ∃ z, z = (tfewv fs).length := ⟨_, rfl⟩
  have HFV := Lib.hid hfv
  have hpc : nk ≤ c3 ∧ c3 ≤ maxLen := by obtain ⟨_, h1, h2, _⟩ := hpk.1.get; rw [HN.out.1]; exact ⟨h1, h2⟩
  have CN : Calls Tryd.prog 8 #[.agg #[.slice AF (tfewv fs).length cF], .slice AP pub.length cP, .int .i64 q, .slice A3 m2 c3] wd fun e w' => ∃ v, e = .returned v ∧ ∃ m g x, v = .pointer (some ⟨m, 0, none⟩) ∧ TM wf w' g m (clampc q) 0 x ⟨tfewv fs, pub, picks.take m2, [], fun _ => none, []⟩ := by
    refine (tnew_any (fs := tfewv fs) (pub := pub) (picks := picks.take m2) q (HFI.out.keep hcd.to_below) (HPU.out.keep (HBF.out.trans (hcd.below (fun _ x => x.elim) HBF.out.size))).1 (hpk.1.take m2 (by rw [← HN.out.1]; exact hm2l.1)) (by omega) (by have := hsm.1; omega) (fun f hf => ⟨by have := (hsm.2 f hf).1; omega, (hsm.2 f hf).2.1⟩) HPU.out.2.1 HPU.out.2.2 (fun z hz => HPK.out.2.1 z (List.mem_of_mem_take hz))).mono ?_
    rintro e w' ⟨m, g, x, rfl, htc, hlo, hb⟩
    exact ⟨_, rfl, m, g, x, rfl, htc, tinv_new _ _ _ _, fun k hk => Nat.le_trans hcd.size (hlo k hk), hcd.to_below.trans (hb.mono hcd.size)⟩
  have hc3 : m2 ≤ c3 := by have := hpc.1; omega
  have hc63 : c3 ≤ 9223372036854775807 := by have := hpc.2; unfold maxLen at this; omega
  rw [← hfv] at CN HSE ⊢
  clear hcd hsm hpk hfv hS
  refine wp_region_ord (S := S) (N := fun i => true) (by kernel_rfl) [(0, true), (1, true), (2, true), (3, true), (4, true), (5, true), (6, true), (7, true), (8, false), (9, true)] (by kernel_rfl) ?_
  rw [← hwd]
  clear hwd
  iterate 8 (refine ord_look rfl hSd rfl (by intro w hS; rw [HSE.out] at hS; go_simp; with_reducible rfl) (fun c a w h => h) ?_; simp only [Act.put, List.setIfInBounds_toArray, List.set_cons_succ, List.set_cons_zero])
  refine ord_act rfl rfl (fun K hK => ?_)
  refine wp_call 8 _ _ Tryd.func8 rfl (by kernel_rfl) _ _ rfl #[.agg #[.slice AF fv cF], .slice AP pub.length cP, .int .i64 q, .slice A3 m2 c3] (by simp [Act.eval]) (calls_ret CN (by rintro e w1 ⟨v', rfl, h⟩; exact ⟨_, rfl, h⟩)) ?_
  rintro v we ⟨m, g0, x, rfl, hM⟩
  have hSe := HSB.out we hM.bel
  refine hK _ _ ⟨fun _ => hSe, ?_⟩
  clear hK K hSd CN
  have HM0 := Lib.hid hM
  clear hM
  try simp only [Act.put, List.setIfInBounds_toArray, List.set_cons_succ, List.set_cons_zero]
  refine ord_look rfl hSe rfl (by intro w hS; go_simp; with_reducible rfl) (fun c a w h => h) ?_; simp only [Act.put, List.setIfInBounds_toArray, List.set_cons_succ, List.set_cons_zero]
  refine ord_end ?_
  clear hSe
  have hFS0 : (∀ f ∈ tfewv fs, BodyOk f.l) := fun f hf => ⟨by have := ((tfewv_small HFS.out.2).2 f hf).1; omega, ((tfewv_small HFS.out.2).2 f hf).2.1⟩
  obtain ⟨T0, hT0⟩ : ∃ z : TS, z = ⟨tfewv fs, pub, picks.take m2, [], fun _ => none, []⟩ := ⟨_, rfl⟩
  have HT0 : Hid (T0.pub = pub ∧ TOk T0) := Lib.hid (by rw [hT0]; exact ⟨rfl, hFS0, fun e he => by cases he⟩)
  rw [← hT0] at HM0
  go_upto_region 4 with fail
  obtain ⟨wd, hwd⟩ : ∃ z, z = we.drew := ⟨_, rfl⟩
  have hcd : Chg (fun _ => False) we wd := by rw [hwd]; exact (Chg.refl _ _).drew
  have hM1 := HM0.out.kept hcd
  have hSd := HSB.out wd hM1.bel
  have hsm := tfewv_small HFS.out.2
  have hpk := HPK.out.keep (HBF.out.trans (hM1.bel.mono HBF.out.size))
  have CN : Calls Tryd.prog 8 #[.agg #[.slice AF fv cF], .slice AP pub.length cP, .int .i64 q, .slice A3 m2 c3] wd fun e w' => ∃ v, e = .returned v ∧ ∃ m' g' x', v = .pointer (some ⟨m', 0, none⟩) ∧ TM2 wf w' g0 g' m m' (clampc q) 0 x x' T0 T0 := by
    rw [HFV.out]
    refine (tnew_any (fs := tfewv fs) (pub := pub) (picks := picks.take m2) q (HFI.out.keep hM1.bel) (HPU.out.keep (HBF.out.trans (hM1.bel.mono HBF.out.size))).1 (hpk.1.take m2 (by rw [← HN.out.1]; exact hm2l.1)) (by omega) (by have := hsm.1; omega) (fun f hf => ⟨by have := (hsm.2 f hf).1; omega, (hsm.2 f hf).2.1⟩) HPU.out.2.1 HPU.out.2.2 (fun z hz => HPK.out.2.1 z (List.mem_of_mem_take hz))).mono ?_
    rintro e w' ⟨m', g', x', rfl, htc, hlo, hb⟩
    rw [← hT0] at htc
    exact ⟨_, rfl, m', g', x', rfl, TM2.of_new hM1 hb htc (by rw [hT0]; exact tinv_new _ _ _ _) hlo⟩
  clear hcd hsm hpk hT0 hFS0 hM1 HM0
  refine wp_region_ord (S := S) (N := fun i => true) (by kernel_rfl) [(0, true), (1, true), (2, true), (3, true), (4, true), (5, true), (6, true), (7, true), (8, false), (9, true)] (by kernel_rfl) ?_
  rw [← hwd]
  clear hwd
  iterate 8 (refine ord_look rfl hSd rfl (by intro w hS; rw [HSE.out] at hS; go_simp; with_reducible rfl) (fun c a w h => h) ?_; simp only [Act.put, List.setIfInBounds_toArray, List.set_cons_succ, List.set_cons_zero])
  refine ord_act rfl rfl (fun K hK => ?_)
  refine wp_call 8 _ _ Tryd.func8 rfl (by kernel_rfl) _ _ rfl #[.agg #[.slice AF fv cF], .slice AP pub.length cP, .int .i64 q, .slice A3 m2 c3] (by simp [Act.eval]) (calls_ret CN (by rintro e w1 ⟨v', rfl, h⟩; exact ⟨_, rfl, h⟩)) ?_
  rintro v wg ⟨m', g', x', rfl, hM⟩
  have hSe := HSB.out wg hM.a.bel
  refine hK _ _ ⟨fun _ => hSe, ?_⟩
  clear hK K hSd CN
  have HM0 := Lib.hid hM
  clear hM
  try simp only [Act.put, List.setIfInBounds_toArray, List.set_cons_succ, List.set_cons_zero]
  refine ord_look rfl hSe rfl (by intro w hS; go_simp; with_reducible rfl) (fun c a w h => h) ?_; simp only [Act.put, List.setIfInBounds_toArray, List.set_cons_succ, List.set_cons_zero]
  refine ord_end ?_
  clear hSe hm2 hm2l hm3 hc3 hc63 hpc HSB HSE S HFI HXF
  obtain ⟨i0, hi, hz0, hz1, hz2⟩ := info_parts (show (Tryd.prog.info? 2).map (fun i => (i.zero, i.size, i.bytes)) = some (some (.int .i64 0), 1, 8) by kernel_rfl)
  obtain ⟨pn, hpn⟩ : ∃ z, z = pub.length := ⟨_, rfl⟩
  rw [← hpn]
  have hpn63 : pn ≤ 9223372036854775807 := by have := HPU.out.2.1; omega
  have HPN := Lib.hid hpn
  clear hpn
  go_wp2_with fail
  go_loopg [14] (na + 1) (fun z i wr => ∃ (t np : Nat) (ga gb : Nat → Nat) (T : TS), t ≤ na ∧ t ≤ 100 ∧ z = na + 1 - t ∧ i = .int .i64 t ∧ np ≤ 20 * t ∧ Hid (TM2 wf wr ga gb m m' (clampc q) np x x' T T) ∧ Hid (T.pub = pub ∧ TOk T))
  case atStart => exact ⟨0, 0, g0, g', _, by omega, by omega, rfl, rfl, by omega, HM0, HT0⟩
  case round =>
    clear HM0 HT0
    obtain ⟨t, np, ga, gb, T, ht, ht2, hz2, rfl, hnp, HM, HTF⟩ := hrel
    have HZ2 := Lib.hid hz2
    clear hz2
    by_cases hlt : t < na ∧ t < 100
    · have htl : t < asks.length := by rw [← HN.out.2.1]; exact hlt.1
      obtain ⟨b, off, rfl, hcs⟩ := HAS.out.2.2 (by omega)
      obtain ⟨A1, d1, A2, d2, k0, k1, k2, n1, n2⟩ := hcs t asks[t] (List.getElem?_eq_getElem htl)
      obtain ⟨⟨fn, args, oth⟩, hak⟩ : ∃ z, z = asks[t] := ⟨_, rfl⟩
      rw [← hak] at k0 k1 k2 n1 n2
      simp only at k0 k1 k2 n1 n2
      obtain ⟨ln, hln⟩ : ∃ z, z = args.length := ⟨_, rfl⟩
      obtain ⟨lo, hlo⟩ : ∃ z, z = oth.length := ⟨_, rfl⟩
      rw [← hln] at k1
      rw [← hlo] at k2
      clear hcs hak htl
      have h1 := hlt.1
      have h2 := hlt.2
      clear hlt
      have hln63 : ln ≤ 9223372036854775807 := by have := n1.2.2; omega
      have hlo63 : lo ≤ 9223372036854775807 := by have := n2.2.2; omega
      obtain ⟨S2, hS⟩ : ∃ S : World → Prop, S = fun w' => w'.cell? ⟨b, off + t * 3, none⟩ = some (.int .i64 fn) ∧ w'.cell? ⟨b, off + t * 3 + 1, none⟩ = some (.slice A1 ln d1) ∧ w'.cell? ⟨b, off + t * 3 + 2, none⟩ = some (.slice A2 lo d2) := ⟨_, rfl⟩
      have HSA : Hid (∀ w', Below wf.heap.size wf w' → S2 w') := Lib.hid (by
        intro w' hb
        rw [hS]
        have hb := HBF.out.trans (hb.mono HBF.out.size)
        exact ⟨(Below.chg hb).cell k0 (fun x => x), (Below.chg hb).cell k1 (fun x => x), (Below.chg hb).cell k2 (fun x => x)⟩)
      have HSE2 := Lib.hid hS
      have HA := Lib.hid (And.intro n1 (And.intro n2 (And.intro hln hlo)))
      obtain ⟨lm, hlm⟩ : ∃ lm : Nat, (if (20 : Int) < (ln : Int) then (20 : Int) else (ln : Int)) = (lm : Int) := ⟨(if (20 : Int) < (ln : Int) then (20 : Int) else (ln : Int)).toNat, by split <;> omega⟩
      have hlml : lm ≤ ln ∧ lm ≤ 20 := by split at hlm <;> omega
      have HLM : Hid ((lm : Int) = min (ln : Int) 20 ∧ (lm < 20 → lm = ln)) := Lib.hid ⟨by split at hlm <;> omega, fun h => by split at hlm <;> omega⟩
      obtain ⟨wk, hwk⟩ : ∃ z, z = wr := ⟨_, rfl⟩
      rw [← hwk] at HM ⊢
      clear hS n1 n2 k0 k1 k2 hln hlo hwk
      go_wp2_with fail
      have e100 : decide ((t : Int) < 100) = true := decide_eq_true (by omega)
      simp only [e100]
      clear e100
      go_loopg [15, 16] (lm + 1) (fun z V i wr => ∃ j : Nat, j ≤ lm ∧ z = lm + 1 - j ∧ i = .int .i64 j ∧ (∃ AV cV, V = .slice AV j cV) ∧ Hid (wr.ownsRow 0 2 1 V j (nums (mixL pub fn args oth j))) ∧ Hid (∀ k, V.ownBlock = some k → wk.heap.size ≤ k) ∧ Hid (Below wk.heap.size wk wr))
      case atStart => exact ⟨0, by omega, rfl, rfl, ⟨_, _, rfl⟩, Lib.hid (World.ownsRow_nil _ _ _ _), Lib.hid (fun k hk => by cases hk), Lib.hid (Below.refl _ _)⟩
      case round =>
        obtain ⟨j, hj, hz, rfl, ⟨AV, cV, rfl⟩, HROW0, HFAR, HBE⟩ := hrel
        have HZ := Lib.hid hz
        clear hz
        have HBK : Hid (Below wf.heap.size wf wr) := Lib.hid (HM.out.a.bel.trans (HBE.out.mono HM.out.a.bel.size))
        have hsx := HSA.out _ HBK.out
        rw [HSE2.out] at hsx
        obtain ⟨s0, s1, s2⟩ := hsx
        by_cases hjl : j < lm
        · -- INNER
          have hjn : j < ln := by omega
          have hj20 : j < 20 := by omega
          obtain ⟨_, _, _, hget⟩ := (HA.out.1.keep (HBF.out.trans (HBK.out.mono HBF.out.size))).1.get
          obtain ⟨b1, o1, rfl, q0⟩ := hget j (by rw [← HA.out.2.2.1]; exact hjn)
          have hin := HA.out.1.2.1 (args[j]'(by rw [← HA.out.2.2.1]; exact hjn)) (List.getElem_mem _)
          have hgd : args.getD j 0 = args[j]'(by rw [← HA.out.2.2.1]; exact hjn) := by rw [List.getD_eq_getElem?_getD, List.getElem?_eq_getElem (by rw [← HA.out.2.2.1]; exact hjn)]; rfl
          obtain ⟨ag, hag⟩ : ∃ z, z = args[j]'(by rw [← HA.out.2.2.1]; exact hjn) := ⟨_, rfl⟩
          rw [← hag] at q0 hin hgd
          obtain ⟨xv, hxv⟩ : ∃ z, z = mixV pub fn args oth j := ⟨_, rfl⟩
          have HAG := Lib.hid (And.intro hgd hxv)
          have HIN := Lib.hid hin
          clear hget hag hgd hxv hin
          have hother : ∀ (hop : openB pub fn j = false), (j < lo → ∃ b2 o2, A2 = some ⟨b2, o2, none⟩ ∧ wr.cell? ⟨b2, o2 + j, none⟩ = some (.int .i64 xv)) ∧ (lo ≤ j → xv = ag) := fun hop => ⟨fun hl => by
            obtain ⟨_, _, _, hget⟩ := (HA.out.2.1.keep (HBF.out.trans (HBK.out.mono HBF.out.size))).1.get
            obtain ⟨b2, o2, e, q2⟩ := hget j (by rw [← HA.out.2.2.2]; exact hl)
            refine ⟨b2, o2, e, ?_⟩
            rw [q2, HAG.out.2]
            unfold mixV
            rw [if_pos ⟨hop, by rw [← HA.out.2.2.2]; exact hl⟩, List.getD_eq_getElem?_getD, List.getElem?_eq_getElem (by rw [← HA.out.2.2.2]; exact hl)]
            rfl, fun hl => by
            rw [HAG.out.2, ← HAG.out.1]
            unfold mixV
            rw [if_neg (fun h => by have := h.2; rw [← HA.out.2.2.2] at this; omega)]⟩
          obtain ⟨bo, hbo⟩ : ∃ z, z = openB pub fn j := ⟨_, rfl⟩
          rw [← hbo] at hother
          have h3 : (bo = true ∧ xv = ag) ∨ (bo = false ∧ j < lo ∧ ∃ b2 o2, A2 = some ⟨b2, o2, none⟩ ∧ wr.cell? ⟨b2, o2 + j, none⟩ = some (.int .i64 xv)) ∨ (bo = false ∧ lo ≤ j ∧ xv = ag) := by
            cases hb : bo with
            | true => exact .inl ⟨rfl, by
                rw [HAG.out.2, ← HAG.out.1]
                unfold mixV
                rw [if_neg (by rw [← hbo, hb]; simp)]⟩
            | false =>
              obtain ⟨ho1, ho2⟩ := hother hb
              by_cases hl : j < lo
              · exact .inr (.inl ⟨rfl, hl, ho1 hl⟩)
              · exact .inr (.inr ⟨rfl, by omega, ho2 (by omega)⟩)
          have H3 := Lib.hid h3
          have HBO := Lib.hid hbo
          clear hother h3 hbo
          go_upto_region 16 with fail
          go_cut [19] from 63 to 139 (fun o wx => o = .bool bo ∧ wx = wr)
          case first =>
            have hcs : (fn < 0 ∨ (pn : Int) ≤ fn) ∨ (0 ≤ fn ∧ fn < pn) := by omega
            rcases hcs with hcs | ⟨hf0, hfp⟩
            · have hop : bo = false := by
                rw [HBO.out]
                unfold openB
                rcases hcs with h | h
                · rw [decide_eq_false (by omega)]; rfl
                · rw [openV_out (by rw [← HPN.out]; omega)]; simp
              subst hop
              rcases hcs with hcs | hcs
              · go_wp2_with fail
                go_meet
                case rel => exact ⟨rfl, rfl⟩
              · have hf0 : 0 ≤ fn := by omega
                go_wp2_with fail
                go_meet
                case rel => exact ⟨rfl, rfl⟩
            · obtain ⟨f, rfl⟩ : ∃ f : Nat, fn = f := ⟨fn.toNat, by omega⟩
              have hfl : f < pub.length := by rw [← HPN.out]; omega
              obtain ⟨bp, op, A5, c5, rfl, hcp, r0, hrl, hel⟩ := (HPU.out.keep (HBF.out.trans (HBK.out.mono HBF.out.size))).1.row f hfl
              rw [← HPN.out] at hcp
              obtain ⟨lp, hlp⟩ : ∃ z, z = pub[f].length := ⟨_, rfl⟩
              have hopv : openB pub (f : Int) j = openV pub f j := by unfold openB; rw [decide_eq_true (by omega), Int.toNat_natCast]; rfl
              have hlp63 : lp ≤ 9223372036854775807 := by have := hrl.1; have h := hrl.2; unfold maxLen at h; omega
              have hpo : lp ≤ j → openV pub f j = false := fun h => by rw [openV_in hfl, List.getD_eq_getElem?_getD, List.getElem?_eq_none (by omega)]; rfl
              have hbv : bo = openV pub f j := by rw [HBO.out, hopv]
              rw [← hlp] at r0 hel
              clear hlp hopv hrl
              by_cases hjp : j < lp
              · obtain ⟨b3, o3, rfl, r1⟩ := hel j hjp
                rw [← hbv] at r1
                have HBV := Lib.hid hbv
                clear hel hpo hbv
                go_wp2_with fail
                go_meet
                case rel => exact ⟨rfl, rfl⟩
              · have hov := hpo (by omega)
                rw [hov] at hbv
                subst hbv
                clear hel hpo hov
                go_wp2_with fail
                go_meet
                case rel => exact ⟨rfl, rfl⟩
          case rest =>
            obtain ⟨rfl, hwc⟩ := hcut
            rw [hwc]
            clear hwc q0
            rcases H3.out with ⟨rfl, rfl⟩ | ⟨rfl, hjo, b2, o2, rfl, q2⟩ | ⟨rfl, hjo, rfl⟩
            all_goals (go_upto_region 19 with fail)
            all_goals clear s0 s1 s2
            all_goals
              obtain ⟨wx, hwx⟩ : ∃ z, z = wr.alloc (.cells #[.int .i64 xv] 2) := ⟨_, rfl⟩
              have hcx : Chg (fun _ => False) wr wx := by rw [hwx]; exact (Chg.refl _ _).alloc _
              have HROW : Hid (wx.ownsRow 0 2 1 (.slice AV j cV) j (nums (mixL pub fn args oth j))) := Lib.hid (ownsRow_kept HROW0.out hcx (fun _ _ x => x))
              have HNEW : Hid (∀ (i : Nat) u, ([.int .i64 xv] : List Value)[i]? = some u → wx.cell? ((⟨wr.heap.size, 0, none⟩ : Addr).add i) = some u) := Lib.hid (World.news_of_block (cs := #[.int .i64 xv]) (t := 2) (fr := (0, 0)) (by rw [hwx]; exact heap_new _ _))
              have HSZ : Hid (wx.heap.size = wr.heap.size + 1) := Lib.hid (by rw [hwx]; simp)
              have HC := Lib.hid hcx
              have HWX := Lib.hid hwx
              clear hwx hcx
              go_wp2_with (at_builtin; rw [← HWX.out]; refine wpList_append_lies _ rfl _ _ _ rfl 0 2 i0 _ 1 8 Tryd.underlying26 hi hz0 hz1 hz2 rfl (by omega) (.slice AV j cV) j (nums (mixL pub fn args oth j)) rfl HROW.out ⟨wr.heap.size, 0, none⟩ 1 1 [.int .i64 xv] rfl rfl HNEW.out (by simp [Value.oneCell']) (by omega) (by unfold maxLen; omega) (by omega) (by omega) (wr.heap.size + 1) HSZ.out ?_; intro g5 cap5 w5 hown5 hgrow5 hat5 hlt5; have HC5 := Lib.hid (And.intro hown5 (And.intro (Chg.of_grown hgrow5) hat5)); clear hown5 hgrow5 hat5 hlt5)
              go_roundg (lm + 1 - (j + 1))
              case measure => have := HZ.out; omega
              case rel =>
                refine ⟨j + 1, by omega, rfl, by go_num, ⟨_, _, rfl⟩, Lib.hid ?_, Lib.hid (fun k hk => ?_), Lib.hid ?_⟩
                · have h := HC5.out.1
                  rw [mixL_snoc, ← HAG.out.2]
                  simpa [nums] using h
                · have hk : some g5 = some k := hk
                  injection hk with hk
                  rcases HC5.out.2.2 with e | e
                  · have := HFAR.out g5 e; omega
                  · have := HBE.out.size; omega
                · have h1 : Below wk.heap.size wr wx := HC.out.below (fun k h => h.elim) HBE.out.size
                  exact (HBE.out.trans h1).trans (HC5.out.2.1.below (fun k h => HFAR.out k h) (Nat.le_trans HBE.out.size h1.size))
        · -- BEHIND THE INNER LOOP
          obtain rfl : j = lm := by omega
          have hend : ¬ (j < ln ∧ j < 20) := fun h => by have h3 := HLM.out.2; omega
          have HMR : Hid (TM2 wf wr ga gb m m' (clampc q) np x x' T T) := Lib.hid (HM.out.kept (Below.chg HBE.out))
          clear hj
          -- the rest
          obtain ⟨wq, hwq⟩ : ∃ z, z = wr.drew := ⟨_, rfl⟩
          have hcd : Chg (fun _ => False) wr wq := by rw [hwq]; exact (Chg.refl _ _).drew
          have hMq := HMR.out.kept hcd
          have hSq := HSA.out _ hMq.a.bel
          have hpc : ln ≤ d1 ∧ d1 ≤ maxLen := by obtain ⟨_, h1, h2, _⟩ := HA.out.1.1.get; rw [HA.out.2.2.1]; exact ⟨h1, h2⟩
          have hns : NumSrc wq (.slice A1 j d1) (args.take j) := (HA.out.1.keep (HBF.out.trans (hMq.a.bel.mono HBF.out.size))).1.take j (by rw [← HA.out.2.2.1]; exact hlml.1)
          have hrq := ownsRow_kept HROW0.out hcd (fun _ _ x => x)
          obtain ⟨⟨⟨body, fa, chv⟩, T2⟩, hEn⟩ : ∃ z, z = enterV (clampc q) T fn (args.take j) := ⟨_, rfl⟩
          have hEn2 : (⟨⟨body, fa, chv⟩, T2⟩ : (List InsR × Bool × Int) × TS) = enterV (clampc q) T fn (mixL pub fn args oth j) := by
            rw [hEn, mix_enter (by rw [← HA.out.2.2.1]; exact HLM.out.1), HTF.out.1]
          obtain ⟨hok, hbo⟩ := HTF.out.2.enter (cap := clampc q) fn (args := args.take j) (fun z hz => HA.out.1.2.1 z (List.mem_of_mem_take hz))
          have hpb := enter_pub (clampc q) T fn (args.take j)
          rw [HTF.out.1] at hpb
          rw [← hEn] at hok hbo hpb
          simp only at hok hbo hpb
          obtain ⟨bl, hbl⟩ : ∃ z, z = body.length := ⟨_, rfl⟩
          have CE : Calls Tryd.prog 9 #[.pointer (some ⟨m, 0, none⟩), .int .i64 fn, .slice A1 j d1] wq fun e w' => ∃ v, e = .returned v ∧ ∃ A5 c5 ga', v = .tuple #[.slice A5 bl c5, .bool fa, .int .i64 chv] ∧ w'.ownsRow 0 58 3 (.slice A5 bl c5) bl (insCells body) ∧ (∀ k, (Value.slice A5 bl c5).ownBlock = some k → gb k = 0) ∧ TM2 wf w' ga' gb m m' (clampc q) (np + 10) x x' T2 T ∧ (∀ k, (Value.slice AV j cV).ownBlock = some k → ga k = 0 ∧ gb k = 0) ∧ w'.ownsRow 0 2 1 (.slice AV j cV) j (nums (mixL pub fn args oth j)) := by
            have hz : ∀ k, (Value.slice AV j cV).ownBlock = some k → ga k = 0 ∧ gb k = 0 := fun k hk => by
              have h1 := HFAR.out k hk
              constructor
              · rcases Nat.eq_zero_or_pos (ga k) with e | e
                · exact e
                · have := HM.out.a.tc.lt k (by omega); omega
              · rcases Nat.eq_zero_or_pos (gb k) with e | e
                · exact e
                · have := HM.out.b.tc.lt k (by omega); omega
            refine (hMq.enter hns fn (by omega)).mono ?_
            rintro e w' ⟨VB, ga', rfl, h1, h2, h3, h4⟩
            rw [← hEn] at h1 h3 ⊢
            simp only at h1
            rw [← hbl] at h1
            obtain ⟨_, A5, c5, rfl⟩ := ownsRow_slice h1
            exact ⟨_, rfl, A5, c5, ga', rfl, h1, fun k hk => (h2 k hk).2.2, h3, hz, ownsRow_kept hrq h4 (fun k hk hk2 => hk2 (hz k hk).1)⟩
          have HOK := Lib.hid (And.intro hpb (And.intro hok (And.intro hbo (And.intro hbl hEn2))))
          have hjc : j ≤ d1 := by have := hpc.1; omega
          have hd163 : d1 ≤ 9223372036854775807 := by have := hpc.2; unfold maxLen at this; omega
          clear hcd hMq hns hrq hEn hEn2 hok hbo hpb hbl HROW0 hpc
          obtain ⟨s0, s1, s2⟩ : wr.cell? ⟨b, off + t * 3, none⟩ = some (.int .i64 fn) ∧ wr.cell? ⟨b, off + t * 3 + 1, none⟩ = some (.slice A1 ln d1) ∧ wr.cell? ⟨b, off + t * 3 + 2, none⟩ = some (.slice A2 lo d2) := ⟨s0, s1, s2⟩
          have hlm3 : min (ln : Int) 20 = (j : Int) := HLM.out.1.symm
          have hcs : (¬ (j : Int) < (ln : Int)) ∨ ((j : Int) < (ln : Int) ∧ ¬ (j : Int) < 20) := by
            by_cases h : j < ln
            · exact .inr ⟨by omega, fun h2 => hend ⟨h, by omega⟩⟩
            · exact .inl (by omega)
          rcases hcs with hcs | ⟨hcs, hcs2⟩
          all_goals (go_upto_region 20 with fail)
          all_goals clear s0 s1 s2
          all_goals
            refine wp_region_ord (S := S2) (N := fun i => true) (by kernel_rfl) [(0, true), (1, true), (2, true), (3, true), (4, true), (5, true), (6, true), (7, true), (8, true), (9, true), (10, true), (11, true), (12, true), (13, true), (14, true), (15, true), (16, true), (17, true), (18, true), (19, false), (20, true), (21, true), (22, true), (23, true), (24, true), (25, true), (26, true)] (by kernel_rfl) ?_
            rw [← hwq]
            clear hwq
            iterate 19 (refine ord_look rfl hSq rfl (by intro w hS; rw [HSE2.out] at hS; obtain ⟨s1, s2, s3⟩ := hS; go_simp; with_reducible rfl) (fun c a w h => h) ?_; simp only [Act.put, List.setIfInBounds_toArray, List.set_cons_succ, List.set_cons_zero])
            refine ord_act rfl rfl (fun K hK => ?_)
            refine wp_call 9 _ _ Tryd.func9 rfl (by kernel_rfl) _ _ rfl #[.pointer (some ⟨m, 0, none⟩), .int .i64 fn, .slice A1 j d1] (by simp [Act.eval]) (calls_ret CE (by rintro e w1 ⟨v', rfl, h⟩; exact ⟨_, rfl, h⟩)) ?_
            rintro v we2 ⟨A5, c5, ga', rfl, hr5, hz5, hMe, hz6, hr6⟩
            have hSe := HSA.out _ hMe.a.bel
            refine hK _ _ ⟨fun _ => hSe, ?_⟩
            clear hK K hSq CE
            have HME := Lib.hid hMe
            have HR5 := Lib.hid (And.intro hr5 (And.intro hz5 (And.intro hz6 hr6)))
            clear hMe hr5 hz5 hz6 hr6
            try simp only [Act.put, List.setIfInBounds_toArray, List.set_cons_succ, List.set_cons_zero]
            iterate 7 (refine ord_look rfl hSe rfl (by intro w hS; go_simp; with_reducible rfl) (fun c a w h => h) ?_; simp only [Act.put, List.setIfInBounds_toArray, List.set_cons_succ, List.set_cons_zero])
            refine ord_end ?_
            have hMs := HME.out.swap
            have CB := Lib.hid (hMs.enter (V := .slice AV j cV) (args := mixL pub fn args oth j) (NumSrc.of_row (t := 2) (by rw [mixL_len]; exact HR5.out.2.2.2)) fn (by omega))
            rw [← HOK.out.2.2.2.2] at CB
            rw [HSE2.out] at hSe
            obtain ⟨s0, s1, s2⟩ := hSe
            clear hMs
            go_wp2_with fail
            refine CB.out.mono ?_
            rintro e wy ⟨VB, gb', rfl, h1, h2, h3, h4⟩
            try simp only at h1
            rw [← HOK.out.2.2.2.1] at h1
            obtain ⟨_, A6, c6, rfl⟩ := ownsRow_slice h1
            have hr5 := ownsRow_kept HR5.out.1 h4 (fun k hk hk2 => hk2 (HR5.out.2.1 k hk))
            have HMY : Hid (TM2 wf wy ga' gb' m m' (clampc q) (np + 20) x x' T2 T2) := Lib.hid h3.swap
            have CT := Lib.hid (ttexts_any (n := bl) (l := body) (HTX.out.keep (HBF.out.trans (h3.a.bel.mono HBF.out.size))) HOK.out.2.2.2.1 (Src.of_row hr5) (Src.of_row h1) HOK.out.2.2.1)
            simp only
            clear h1 h2 h3 h4 hr5 CB s0 s1 s2
            go_wp2_with fail
            refine CT.out.mono ?_
            rintro e wz ⟨rfl, hbz⟩
            have HMZ : Hid (TM2 wf wz ga' gb' m m' (clampc q) (np + 20) x x' T2 T2) := Lib.hid (HMY.out.kept (Below.chg hbz))
            clear hbz HMY CT
            go_wp2_with fail
            go_roundg (na + 1 - (t + 1))
            case measure => have := HZ2.out; omega
            case rel => exact ⟨t + 1, np + 20, ga', gb', T2, by omega, by omega, rfl, by go_num, by omega, HMZ, Lib.hid ⟨HOK.out.1, HOK.out.2.1⟩⟩
    · have CV := Lib.hid (HM.out.a.events (by omega))
      have hev := HM.out.a.tc.small.2.2
      obtain ⟨n1, hn1⟩ : ∃ z, z = T.evs.length := ⟨_, rfl⟩
      rw [← hn1] at hev
      have HN1 := Lib.hid hn1
      clear hn1
      by_cases hta : t < na
      · have h2 : ¬ t < 100 := fun h => hlt ⟨hta, h⟩
        clear hlt
        go_wp2_with fail
        refine CV.out.mono ?_
        rintro e wv ⟨VE, rfl, hrow, hfar, _, hcv⟩
        rw [← HN1.out] at hrow
        obtain ⟨_, A7, c7, rfl⟩ := ownsRow_slice hrow
        have HM2 := Lib.hid (HM.out.kept hcv)
        have CV2 := Lib.hid (HM2.out.b.events (by omega))
        have HR7 := Lib.hid hrow
        clear hrow hfar hcv CV
        go_wp2_with fail
        refine CV2.out.mono ?_
        rintro e wy ⟨VE, rfl, hrow, hfar, _, hcv⟩
        rw [← HN1.out] at hrow
        obtain ⟨_, A8, c8, rfl⟩ := ownsRow_slice hrow
        have HM3 := Lib.hid (HM2.out.kept hcv)
        have CE := Lib.hid (tevents_any HN1.out (by omega) (ownsRow_kept HR7.out hcv (fun _ _ x => x)) hrow)
        clear hrow hfar hcv CV2
        go_wp2_with fail
        refine CE.out.mono ?_
        rintro e wz ⟨rfl, hbz⟩
        have HBZ := Lib.hid (HM3.out.a.bel.trans (hbz.mono HM3.out.a.bel.size))
        clear hbz CE
        go_wp2_with fail
        go_ret
        exact ⟨rfl, HBF.out.trans (HBZ.out.mono HBF.out.size)⟩
      · clear hlt
        go_wp2_with fail
        refine CV.out.mono ?_
        rintro e wv ⟨VE, rfl, hrow, hfar, _, hcv⟩
        rw [← HN1.out] at hrow
        obtain ⟨_, A7, c7, rfl⟩ := ownsRow_slice hrow
        have HM2 := Lib.hid (HM.out.kept hcv)
        have CV2 := Lib.hid (HM2.out.b.events (by omega))
        have HR7 := Lib.hid hrow
        clear hrow hfar hcv CV
        go_wp2_with fail
        refine CV2.out.mono ?_
        rintro e wy ⟨VE, rfl, hrow, hfar, _, hcv⟩
        rw [← HN1.out] at hrow
        obtain ⟨_, A8, c8, rfl⟩ := ownsRow_slice hrow
        have HM3 := Lib.hid (HM2.out.kept hcv)
        have CE := Lib.hid (tevents_any HN1.out (by omega) (ownsRow_kept HR7.out hcv (fun _ _ x => x)) hrow)
        clear hrow hfar hcv CV2
        go_wp2_with fail
        refine CE.out.mono ?_
        rintro e wz ⟨rfl, hbz⟩
        have HBZ := Lib.hid (HM3.out.a.bel.trans (hbz.mono HM3.out.a.bel.size))
        clear hbz CE
        go_wp2_with fail
        go_ret
        exact ⟨rfl, HBF.out.trans (HBZ.out.mono HBF.out.size)⟩
end Go.Proofs.YtgiegkacilfofaaDoor
