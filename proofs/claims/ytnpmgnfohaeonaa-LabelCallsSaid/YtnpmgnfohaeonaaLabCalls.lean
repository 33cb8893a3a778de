/- LabelCalls: the plain law, the reader of rows of names, and the walk of the law. -/
import Derived.Test.YtnpmgnfohaeonaaLabPlain
import Derived.Test.YtnpmgnfohaeonaaLabRdP
import Derived.Test.YtnpmgnfohaeonaaLabApp
import Derived.Deep.CutBlock
namespace Go.Proofs.Ytnpmgnfohaeonaa
set_option linter.unusedVariables false
set_option linter.unusedSimpArgs false
open Go.RowKit

theorem opens_strs (n : Nat) : Rd.Opens Try.prog 36 (Rd.slice Rd.str 16) n := fun H enc W base spare held fuel cs x hf =>
  Rd.opens_slice Try.underlying36 (by kernel_rfl) (by decide) (by kernel_rfl) (Rd.opens_str Try.underlying9 n) H enc W base spare held fuel cs x (by omega)

/-- is a secret told by the first i arguments? -/
def badv (xs ys : List ByteArray) (i : Nat) : Bool := (List.range i).any (fun j => decide (j < xs.length) && (great (ys.getD j ByteArray.empty) && !great (xs.getD j ByteArray.empty)))
theorem badv_succ (xs ys : List ByteArray) (i : Nat) : badv xs ys (i + 1) = (badv xs ys i || (decide (i < xs.length) && (great (ys.getD i ByteArray.empty) && !great (xs.getD i ByteArray.empty)))) := by
  unfold badv
  rw [List.range_succ, List.any_append]
  simp
theorem callv_any (xs : List ByteArray) (l : List ExprT) : ∀ k, callv xs l k = (List.range k).any (fun j => !great (xs.getD j ByteArray.empty) && leaksv l j)
  | 0 => rfl
  | k + 1 => by rw [callv, callv_any xs l k, List.range_succ, List.any_append]; simp
theorem leaksv_vars (ys : List ByteArray) (j : Nat) : leaksv (ys.map varT) j = (decide (j < ys.length) && great (ys.getD j ByteArray.empty)) := by
  unfold leaksv
  rw [List.getElem?_map]
  by_cases h : j < ys.length
  · simp [h, secE_var]
  · simp [h]
theorem badv_callv (xs ys : List ByteArray) : callv xs (ys.map varT) xs.length = badv xs ys ys.length := by
  rw [callv_any, badv, Bool.eq_iff_iff]
  simp only [List.any_eq_true, List.mem_range, leaksv_vars, Bool.and_eq_true, Bool.not_eq_true', decide_eq_true_eq]
  constructor
  · rintro ⟨j, h1, h2, h3, h4⟩
    exact ⟨j, h3, h1, h4, h2⟩
  · rintro ⟨j, h3, h1, h4, h2⟩
    exact ⟨j, h1, h2, h3, h4⟩
def callT (ys : List ByteArray) : ExprT := .mk 5 0 ⟨#[102]⟩ (ys.map varT)
theorem check_call (xs ys : List ByteArray) : checkv ⟨[⟨⟨#[102]⟩, xs, []⟩], [.mk 6 ⟨#[]⟩ 0 [callT ys] [] []]⟩ = if badv xs ys ys.length then 5 else 0 := by
  have hp : prms [(⟨⟨#[102]⟩, xs, []⟩ : FuncT)] ⟨#[102]⟩ = xs := by simp [prms]
  have ht : tellE (prms [(⟨⟨#[102]⟩, xs, []⟩ : FuncT)]) (callT ys) = badv xs ys ys.length := by
    unfold callT
    rw [tellE_eq]
    have h1 : (ys.map varT).any (tellE (prms [(⟨⟨#[102]⟩, xs, []⟩ : FuncT)])) = false := by simp [tellE_var]
    rw [h1, Bool.or_false]
    simp only [ownE]
    rw [if_neg (by decide), if_neg (by decide), hp]
    simp only [if_true]
    exact badv_callv xs ys
  unfold checkv
  congr 1
  simp [badP, tellS_eq, ownS, ht]

set_option maxHeartbeats 16000000 in
set_option maxRecDepth 100000 in
theorem labelCalls_walk (Ap : Option Addr) (cp : Nat) (xs0 : List ByteArray) (Aa : Option Addr) (ca : Nat) (ys0 : List ByteArray) (w : World) (hp : Strs w (Lt w) Ap cp xs0) (ha : Strs w (Lt w) Aa ca ys0) :
    Calls Try.prog 8 #[.slice Ap xs0.length cp, .slice Aa ys0.length ca] w fun e w' => e = .returned (.bool true) ∧ Below w.heap.size w w' := by
  have hpc : xs0.length ≤ cp := hp.1.le
  have hac : ys0.length ≤ ca := ha.1.le
  have hpm : xs0.length ≤ 8796093022208 := hp.1.max
  have ham : ys0.length ≤ 8796093022208 := ha.1.max
  obtain ⟨np, hnp⟩ : ∃ np, np = xs0.length := ⟨_, rfl⟩
  obtain ⟨na, hna⟩ : ∃ na, na = ys0.length := ⟨_, rfl⟩
  rw [← hnp] at hpc hpm
  rw [← hna] at hac ham
  obtain ⟨p, hpp⟩ : ∃ p, p = min np 8 := ⟨_, rfl⟩
  obtain ⟨q, hqq⟩ : ∃ q, q = min na 8 := ⟨_, rfl⟩
  have hp8 : (if (8 : Int) < (np : Int) then (8 : Int) else (np : Int)) = (p : Int) := by split <;> omega
  have hq8 : (if (8 : Int) < (na : Int) then (8 : Int) else (na : Int)) = (q : Int) := by split <;> omega
  have hp1 : p ≤ np := by omega
  have hq1 : q ≤ na := by omega
  have hp2 : p ≤ 8 := by omega
  have hq2 : q ≤ 8 := by omega
  have hp3 : p ≤ cp := by omega
  have hq3 : q ≤ ca := by omega
  have HNP := Lib.hid hnp
  have HNA := Lib.hid hna
  clear hpp hqq
  obtain ⟨xs, hps⟩ : ∃ xs, xs = xs0.take p := ⟨_, rfl⟩
  obtain ⟨ys, has⟩ : ∃ ys, ys = ys0.take q := ⟨_, rfl⟩
  have HPL : Hid (xs.length = p) := Lib.hid (by rw [hps, List.length_take]; omega)
  have HAL : Hid (ys.length = q) := Lib.hid (by rw [has, List.length_take]; omega)
  have HSM : Hid (∀ j, j < q → ∃ b off, Aa = some ⟨b, off, none⟩ ∧ (ys.getD j ByteArray.empty).size ≤ 140737488351232 ∧ ∀ wx, Below w.heap.size w wx → wx.cell? ⟨b, off + j, none⟩ = some (.string (ys.getD j ByteArray.empty))) := Lib.hid (fun j hj => by
    obtain ⟨b, off, e, h⟩ := ha.get j (by omega)
    have e2 : ys.getD j ByteArray.empty = ys0[j]'(by omega) := by
      rw [has, List.getD_eq_getElem?_getD, List.getElem?_take, if_pos hj, List.getElem?_eq_getElem (by omega)]
      rfl
    rw [e2]
    exact ⟨b, off, e, ha.2 _ (List.getElem_mem _), h⟩)
  have HSP : Hid (∀ j, j < p → ∃ b off, Ap = some ⟨b, off, none⟩ ∧ ∀ wx, Below w.heap.size w wx → wx.cell? ⟨b, off + j, none⟩ = some (.string (xs.getD j ByteArray.empty))) := Lib.hid (fun j hj => by
    obtain ⟨b, off, e, h⟩ := hp.get j (by omega)
    have e2 : xs.getD j ByteArray.empty = xs0[j]'(by omega) := by
      rw [hps, List.getD_eq_getElem?_getD, List.getElem?_take, if_pos hj, List.getElem?_eq_getElem (by omega)]
      rfl
    rw [e2]
    exact ⟨b, off, e, h⟩)
  have HPS : Hid (∀ wx, Below w.heap.size w wx → Strs wx (Lt wx) Ap cp xs) := Lib.hid (fun wx hb => by
    have h1 := hp.kept (Below.chg hb) (fun _ _ x => x)
    refine ⟨⟨by rw [HPL.out]; exact hp3, by rw [HPL.out]; omega, fun h0 => ?_⟩, fun s hs => h1.2 s (List.mem_of_mem_take (by rw [← hps]; exact hs))⟩
    rw [HPL.out] at h0
    obtain ⟨b, off, e, hx⟩ := h1.1.at_ (by omega)
    refine ⟨b, off, e, fun j hj => ?_⟩
    rw [HPL.out] at hj
    have := (hx j (by omega)).mono (Y := Lt wx) (fun k hk => Nat.lt_of_lt_of_le hk hb.size)
    rw [hps, List.getD_eq_getElem?_getD, List.getElem?_take, if_pos hj, ← List.getD_eq_getElem?_getD]
    exact this)
  have HCK := Lib.hid (check_call xs ys)
  rw [← hnp, ← hna]
  clear hp ha hps has hnp hna
  go_enter Try.func8, Try.ntmps8
  go_wp2_with fail
  refine (shown_any _).mono ?_; rintro e w1 ⟨rfl, hb1⟩
  obtain ⟨o, ho⟩ : ∃ o, o = w1.heap.size := ⟨_, rfl⟩
  obtain ⟨wa, hwa⟩ : ∃ wa, wa = w1.alloc (.cells #[.int .i64 5, .int .i64 0, .string ⟨#[102]⟩, .slice none 0 0] 28) := ⟨_, rfl⟩
  have hox : wa.heap[o]? = some (.cells #[.int .i64 5, .int .i64 0, .string ⟨#[102]⟩, .slice none 0 0] 28 (0, 0)) := by rw [hwa]; exact heap_new' ho.symm
  have hba : Below w.heap.size w wa := by rw [hwa]; exact hb1.alloc hb1.size _
  obtain ⟨base, hbase⟩ : ∃ base, base = wa.heap.size := ⟨_, rfl⟩
  have hob : o < base := by rw [hbase]; exact lt_of_heap hox
  have HST : Hid (PlI wa base o (.int .i64 5) (.int .i64 0) (.string ⟨#[102]⟩) (.slice none 0 0) [] (fun _ => False) []) := Lib.hid (PlI.start hox hob)
  have HBA := Lib.hid hba
  have HBS := Lib.hid hbase
  have HOW : Hid (w.heap.size ≤ o) := Lib.hid (by rw [ho]; exact hb1.size)
  have HWA := Lib.hid (And.intro ho hwa)
  clear hox hba hbase hb1 ho hwa
  go_upto_region 5 with fail
  rw [← HWA.out.2, ← HWA.out.1]
  clear HWA
  go_wp2_with fail
  go_loopg [7, 8] q (fun k vb vi wr => ∃ j : Nat, j ≤ q ∧ k = q - j ∧ vi = .int .i64 j ∧ vb = .bool (badv xs ys j) ∧ ∃ V rows Y, Hid (PlI wr base o (.int .i64 5) (.int .i64 0) (.string ⟨#[102]⟩) V rows Y ((ys.take j).map varT)) ∧ Hid (Chg (fun k => k = o ∨ base ≤ k) wa wr))
  case atStart => exact ⟨0, by omega, rfl, rfl, rfl, _, _, _, HST, Lib.hid (Chg.refl _ _)⟩
  case round =>
    clear HST
    obtain ⟨j, hj, hk2, rfl, rfl, V, rows, Y, HP, HC⟩ := hrel
    have HK := Lib.hid hk2
    clear hk2
    have hsr : base ≤ wr.heap.size := by rw [HBS.out]; exact HC.out.size
    have HBR : Hid (Below w.heap.size w wr) := Lib.hid (HBA.out.trans (HC.out.below (B := w.heap.size) (fun k hk => by have := HOW.out; have := hob; rcases hk with e | e <;> omega) HBA.out.size))
    obtain ⟨bd, hbd⟩ : ∃ bd, badv xs ys j = bd := ⟨_, rfl⟩
    rw [hbd]
    have HBD := Lib.hid hbd
    clear hbd
    have hjn : ((ys.take j).map varT).length = j := by rw [List.length_map, List.length_take, HAL.out]; omega
    have HJN := Lib.hid hjn
    have hrow0 := HP.out.row
    rw [hjn] at hrow0
    obtain ⟨_, AV, cV, rfl⟩ := ownsRow_slice hrow0
    clear hrow0 hjn
    by_cases hlt : j < q
    · obtain ⟨ab, ao, rfl, hsz, hcell⟩ := HSM.out j hlt
      obtain ⟨s, hs⟩ : ∃ s, ys.getD j ByteArray.empty = s := ⟨_, rfl⟩
      rw [hs] at hsz hcell
      have HS := Lib.hid hs
      have HCE := Lib.hid hcell
      have HSZ := Lib.hid hsz
      have SCX : Hid (∀ wx, Below wr.heap.size wr wx → wx.cell? ⟨o, 3, none⟩ = some (.slice AV j cV) ∧ wx.cell? ⟨ab, ao + j, none⟩ = some (.string s)) := Lib.hid (fun wx hb => ⟨cell_of_block ((Below.chg hb).heap HP.out.box (fun x => x)) 3, HCE.out wx (HBR.out.trans (hb.mono HBR.out.size))⟩)
      clear hs hsz hcell
      go_upto_region 9 with fail
      go_cut [] from 28 to 37 (fun wx => ∃ V2 rows2 Y2, Hid (PlI wx base o (.int .i64 5) (.int .i64 0) (.string ⟨#[102]⟩) V2 rows2 Y2 ((ys.take (j + 1)).map varT) ∧ Chg (fun k => k = o ∨ base ≤ k) wr wx))
      case first =>
        obtain ⟨i0, hi, hz0, hz1, hz2⟩ := info_parts infoExpr
        obtain ⟨wd, hwd⟩ : ∃ wd, wd = wr.drew := ⟨_, rfl⟩
        have hbd : Below wr.heap.size wr wd := by rw [hwd]; exact (Below.refl _ _).drew
        refine wp_region_ord (S := fun w' => w'.cell? ⟨o, 3, none⟩ = some (.slice AV j cV) ∧ w'.cell? ⟨ab, ao + j, none⟩ = some (.string s)) (N := fun i => i != 10) (by kernel_rfl) [(0, true), (1, true), (2, true), (3, true), (4, true), (5, true), (6, false), (7, false), (8, false), (9, true), (10, false)] (by kernel_rfl) ?_
        rw [← hwd]
        clear hwd
        have hS0 := SCX.out wd hbd
        iterate 6 (refine ord_look rfl hS0 rfl (by intro w hS; obtain ⟨p0, p1⟩ := hS; go_simp; with_reducible rfl) (fun c a w h => h) ?_; simp only [Act.put, List.setIfInBounds_toArray, List.set_cons_succ, List.set_cons_zero])
        refine ord_act rfl rfl (fun K hK => ?_)
        refine wp_call 18 _ _ Try.func18 rfl (by kernel_rfl) _ _ rfl #[.string s] (by simp [Act.eval]) (R := fun v w1 => v = .agg #[.int .i64 2, .int .i64 0, .string s, .slice none 0 0] ∧ Below wd.heap.size wd w1) (calls_ret (name_any s wd) (by rintro e w1 ⟨rfl, h⟩; exact ⟨_, rfl, rfl, h⟩)) ?_
        rintro v w1 ⟨rfl, hb1⟩
        have hbr1 : Below wr.heap.size wr w1 := bel_trans hbd hb1
        have hS1 := SCX.out w1 hbr1
        refine hK _ _ ⟨fun _ => hS1, ?_⟩
        clear hK K hS0
        try simp only [Act.put, List.setIfInBounds_toArray, List.set_cons_succ, List.set_cons_zero]
        refine ord_act rfl rfl (fun K hK => ?_)
        go_simp
        obtain ⟨wx, hwx⟩ : ∃ wx, wx = w1.alloc (.cells #[.int .i64 2, .int .i64 0, .string s, .slice none 0 0] 28) := ⟨_, rfl⟩
        obtain ⟨g, hg⟩ : ∃ g, g = w1.heap.size := ⟨_, rfl⟩
        rw [← hwx, ← hg]
        have hbx : Below w1.heap.size w1 wx := by rw [hwx]; exact (Below.refl _ _).alloc (Nat.le_refl _) _
        have hgx : wx.heap[g]? = some (.cells #[.int .i64 2, .int .i64 0, .string s, .slice none 0 0] 28 (0, 0)) := by rw [hwx]; exact heap_new' hg.symm
        have hS2 := SCX.out wx (bel_trans hbr1 hbx)
        refine hK _ _ ⟨fun _ => hS2, ?_⟩
        clear hK K hS1 hwx hg
        try simp only [Act.put, List.setIfInBounds_toArray, List.set_cons_succ, List.set_cons_zero]
        have hP1 := HP.out.keep hbr1
        have hPx := hP1.keep hbx
        have hrowx := hPx.row
        rw [HJN.out] at hrowx
        have hVO : ¬ (Value.slice AV j cV).ownBlock = some o := fun e => by have := (hrowx.lt _ e).1; omega
        have hnews : ∀ (j : Nat) u, ([.int .i64 2, .int .i64 0, .string s, .slice none 0 0] : List Value)[j]? = some u → wx.cell? ⟨g, 0 + j, none⟩ = some u := fun j u hu => by
          have := World.news_of_block hgx j u hu
          rwa [add0, Nat.zero_add] at *
        refine ord_act rfl rfl (fun K hK => ?_)
        refine wp_app (.tmp 29) (.tmp 35) 26 rfl base 28 i0 _ 4 56 Try.underlying26 hi hz0 hz1 hz2 rfl (by omega) (.slice AV j cV) j rows.flatten rfl hrowx (some ⟨g, 0, none⟩) 1 1 [.int .i64 2, .int .i64 0, .string s, .slice none 0 0] rfl rfl (fun _ => ⟨g, 0, rfl, hnews⟩) (by simp [Value.oneCell']) (by unfold maxLen; omega) (by omega) (by have := hbr1.size; have := hbx.size; omega) (fun v1 w2 ho1 hg1 hat1 => ?_)
        have hb2 := (Chg.of_grown hg1).heap hPx.box hVO
        have hS3 : w2.cell? ⟨o, 3, none⟩ = some (.slice AV j cV) ∧ w2.cell? ⟨ab, ao + j, none⟩ = some (.string s) := ⟨cell_of_block hb2 3, (Chg.of_grown hg1).cell hS2.2 (fun e => by
          have h1 : base ≤ ab := (hrowx.lt _ e).1
          have h2 : ab < w.heap.size := World.block_lt_of_cell? _ _ (HCE.out w (Below.refl _ _))
          have := HOW.out
          omega)⟩
        have kf1 := frozen_of_block hb2 3
        obtain ⟨_, D1, d9, rfl⟩ := ownsRow_slice ho1
        refine hK _ _ ⟨fun _ => hS3, ?_⟩
        clear hK K
        try simp only [Act.put, List.setIfInBounds_toArray, List.set_cons_succ, List.set_cons_zero]
        (refine ord_look rfl hS3 rfl (by intro w hS; obtain ⟨p0, p1⟩ := hS; go_simp; with_reducible rfl) (fun c a w h => h) ?_; simp only [Act.put, List.setIfInBounds_toArray, List.set_cons_succ, List.set_cons_zero])
        refine ord_act rfl rfl (fun K hK => ?_)
        have k1 := hS3.1
        have hstep := PlI.step (w2 := w2) (V' := .slice D1 (j + 1) d9) (t := varT s) HP.out hbr1 hsr (isExpr_var _ _ s HSZ.out) rfl hbx (by rw [HJN.out]; exact ho1) hg1 hat1
        rw [show (ys.take j).map varT ++ [varT s] = (ys.take (j + 1)).map varT by
          have hjl : j < ys.length := by rw [HAL.out]; exact hlt
          have e := HS.out
          rw [List.getD_eq_getElem?_getD, List.getElem?_eq_getElem hjl] at e
          rw [List.take_succ_eq_append_getElem hjl, List.map_append]
          simp only [Option.getD_some] at e
          rw [e]; rfl] at hstep
        have HSTP := Lib.hid hstep
        have HROW := Lib.hid hrowx
        clear hstep hrowx hnews
        go_simp
        refine hK _ _ ⟨fun h => absurd h (by decide), ?_⟩
        clear hK K
        refine ord_end ?_
        go_wp2_with fail
        go_meet
        case rel => exact ⟨_, _, _, Lib.hid ⟨HSTP.out.1, HSTP.out.2.mono (fun k _ e => by
          rcases e with e | e
          · exact .inl e
          · exact .inr (HROW.out.lt k e).1)⟩⟩
      case rest =>
        obtain ⟨V2, rows2, Y2, HP2⟩ := hcut
        obtain ⟨wq, hwq⟩ : ∃ wq : World, wq = wc := ⟨_, rfl⟩
        rw [← hwq] at HP2 ⊢
        clear hwq SCX
        have HBQ : Hid (Below w.heap.size w wq) := Lib.hid (HBR.out.trans (HP2.out.2.below (B := w.heap.size) (fun k hk => by have := HOW.out; have := hob; rcases hk with e | e <;> omega) HBR.out.size))
        have HQ2 : Hid (PlI wq base o (.int .i64 5) (.int .i64 0) (.string ⟨#[102]⟩) V2 rows2 Y2 ((ys.take (j + 1)).map varT)) := Lib.hid HP2.out.1
        have HC2 : Hid (Chg (fun k => k = o ∨ base ≤ k) wa wq) := Lib.hid (HC.out.then HP2.out.2)
        clear HP2 HP HC
        have hce := HCE.out wq HBQ.out
        have hsucc := badv_succ xs ys j
        rw [HBD.out, HS.out, HPL.out] at hsucc
        have HSU := Lib.hid hsucc
        clear hsucc
        obtain ⟨bn, hbn⟩ : ∃ bn, badv xs ys (j + 1) = bn := ⟨_, rfl⟩
        have HBN := Lib.hid hbn
        clear hbn
        rw [HBN.out] at HSU
        cases bd with
        | true =>
          obtain rfl : bn = true := by rw [HSU.out]; rfl
          go_wp2_with fail
          go_roundg (q - (j + 1))
          case measure => have := HK.out; omega
          case rel => exact ⟨j + 1, by omega, rfl, by go_num, by rw [HBN.out], _, _, _, HQ2, HC2⟩
        | false =>
          by_cases hjp : j < p
          · obtain ⟨pb, po, rfl, hpcell⟩ := HSP.out j hjp
            have hpce := hpcell wq HBQ.out
            clear hpcell
            obtain ⟨s2, hs2⟩ : ∃ s2, xs.getD j ByteArray.empty = s2 := ⟨_, rfl⟩
            rw [hs2] at hpce HSU
            obtain ⟨g1, hg1⟩ : ∃ g1, great s = g1 := ⟨_, rfl⟩
            obtain ⟨g2, hg2⟩ : ∃ g2, great s2 = g2 := ⟨_, rfl⟩
            rw [hg1, hg2, decide_eq_true hjp] at HSU
            have HG1 := Lib.hid hg1
            have HG2 := Lib.hid hg2
            clear hs2 hg1 hg2
            go_wp2_with fail
            refine (secret_any _ _).mono ?_; rintro e w5 ⟨rfl, rfl⟩
            rw [HG1.out]
            cases g1 with
            | false =>
              obtain rfl : bn = false := by rw [HSU.out]; rfl
              go_wp2_with fail
              go_roundg (q - (j + 1))
              case measure => have := HK.out; omega
              case rel => exact ⟨j + 1, by omega, rfl, by go_num, by rw [HBN.out], _, _, _, HQ2, HC2⟩
            | true =>
              go_wp2_with fail
              refine (secret_any _ _).mono ?_; rintro e w6 ⟨rfl, rfl⟩
              rw [HG2.out]
              cases g2 with
              | false =>
                obtain rfl : bn = true := by rw [HSU.out]; rfl
                go_wp2_with fail
                go_roundg (q - (j + 1))
                case measure => have := HK.out; omega
                case rel => exact ⟨j + 1, by omega, rfl, by go_num, by rw [HBN.out], _, _, _, HQ2, HC2⟩
              | true =>
                obtain rfl : bn = false := by rw [HSU.out]; rfl
                go_wp2_with fail
                go_roundg (q - (j + 1))
                case measure => have := HK.out; omega
                case rel => exact ⟨j + 1, by omega, rfl, by go_num, by rw [HBN.out], _, _, _, HQ2, HC2⟩
          · rw [decide_eq_false hjp] at HSU
            obtain rfl : bn = false := by rw [HSU.out]; rfl
            go_wp2_with fail
            go_roundg (q - (j + 1))
            case measure => have := HK.out; omega
            case rel => exact ⟨j + 1, by omega, rfl, by go_num, by rw [HBN.out], _, _, _, HQ2, HC2⟩
    · obtain rfl : j = q := by omega
      have htk : (ys.take j).map varT = ys.map varT := by rw [List.take_of_length_le (by rw [HAL.out]; exact Nat.le_refl _)]
      have hdone := HP.out.done (small1 _) (by rw [HJN.out]; omega)
      rw [htk] at hdone
      have HDN : Hid (IsExpr wr (Lt wr) (callT ys) [.int .i64 5, .int .i64 0, .string ⟨#[102]⟩, .slice AV j cV]) := Lib.hid (hdone.mono (fun k hk => hk.2))
      clear hdone htk
      have o0 := cell_of_block HP.out.box 0
      have o1 := cell_of_block HP.out.box 1
      have o2 := cell_of_block HP.out.box 2
      have o3 := cell_of_block HP.out.box 3
      simp at o0 o1 o2 o3
      have hol : o < wr.heap.size := lt_of_heap HP.out.box
      obtain ⟨F, hF⟩ : ∃ F, F = wr.heap.size := ⟨_, rfl⟩
      obtain ⟨w3, hw3⟩ : ∃ w3, w3 = ((wr.alloc (.cells #[.string ⟨#[102]⟩, .slice Ap p cp, .slice none 0 0] 38)).alloc (.cells #[.int .i64 5, .int .i64 0, .string ⟨#[102]⟩, .slice AV j cV] 28)).alloc (.cells #[.int .i64 6, .string ⟨#[]⟩, .int .i64 0, .slice (some ⟨F + 1, 0, none⟩) 1 1, .slice none 0 0, .slice none 0 0] 42) := ⟨_, rfl⟩
      have hF3 : w3.heap[F]? = some (.cells #[.string ⟨#[102]⟩, .slice Ap p cp, .slice none 0 0] 38 (0, 0)) := by rw [hw3]; exact heap_old (heap_old (heap_new' hF.symm))
      have hE3 : w3.heap[F + 1]? = some (.cells #[.int .i64 5, .int .i64 0, .string ⟨#[102]⟩, .slice AV j cV] 28 (0, 0)) := by rw [hw3]; exact heap_old (heap_new' (by simp [hF]))
      have hM3 : w3.heap[F + 1 + 1]? = some (.cells #[.int .i64 6, .string ⟨#[]⟩, .int .i64 0, .slice (some ⟨F + 1, 0, none⟩) 1 1, .slice none 0 0, .slice none 0 0] 42 (0, 0)) := by rw [hw3]; exact heap_new' (by simp [hF])
      have hb3 : Below wr.heap.size wr w3 := by rw [hw3]; exact (((Below.refl _ _).alloc (Nat.le_refl _) _).alloc (by simp) _).alloc (by simp; omega) _
      have hbw3 : Below w.heap.size w w3 := bel_trans HBR.out hb3
      have CK : Hid (Calls Try.prog 11 #[.agg #[.slice (some ⟨F, 0, none⟩) 1 1, .slice (some ⟨F + 1 + 1, 0, none⟩) 1 1]] w3 fun e w' => e = .returned (.int .i64 (if bd then 5 else 0)) ∧ Below w3.heap.size w3 w') := Lib.hid (by
        have h := check_any (w := w3) (X := Lt w3) ⟨[⟨⟨#[102]⟩, xs, []⟩], [.mk 6 ⟨#[]⟩ 0 [callT ys] [] []]⟩ (funcs_one (v := ⟨⟨#[102]⟩, Ap, p, cp, none, 0, 0⟩) hF3 (lt_of_heap hF3) ⟨rfl, small1 _, HPL.out.symm, HPS.out w3 hbw3, rfl, stmts_nil _ _⟩) (stmts_one (ds := [.int .i64 6, .string ⟨#[]⟩, .int .i64 0, .slice (some ⟨F + 1, 0, none⟩) 1 1, .slice none 0 0, .slice none 0 0]) hM3 (lt_of_heap hM3) (isStmt_of (by decide) (exprs_one (ds := [.int .i64 5, .int .i64 0, .string ⟨#[102]⟩, .slice AV j cV]) hE3 (lt_of_heap hE3) ((HDN.out.keep hb3).mono (fun k hk => Nat.lt_of_lt_of_le hk hb3.size))) (stmts_nil _ _) (stmts_nil _ _) rfl rfl rfl)) (fun _ h => h)
        rw [HCK.out, HAL.out, HBD.out] at h
        exact h)
      have HBW := Lib.hid hbw3
      have HW3 := Lib.hid (And.intro hF hw3)
      clear hF3 hE3 hM3 hb3 hbw3 hF hw3
      cases bd with
      | true =>
        go_wp2_with fail
        rw [← HW3.out.1, ← HW3.out.2]
        refine CK.out.mono ?_; rintro e w4 ⟨rfl, hb4⟩
        have HFIN := Lib.hid (bel_trans HBW.out hb4)
        clear hb4
        go_wp2_with fail
        go_ret
        exact ⟨rfl, HFIN.out⟩
      | false =>
        go_wp2_with fail
        rw [← HW3.out.1, ← HW3.out.2]
        refine CK.out.mono ?_; rintro e w4 ⟨rfl, hb4⟩
        have HFIN := Lib.hid (bel_trans HBW.out hb4)
        clear hb4
        go_wp2_with fail
        go_ret
        exact ⟨rfl, HFIN.out⟩
end Go.Proofs.Ytnpmgnfohaeonaa
