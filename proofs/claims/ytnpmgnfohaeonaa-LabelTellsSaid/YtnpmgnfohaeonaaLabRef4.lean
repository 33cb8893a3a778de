/- The document's labels: Check. -/
import Derived.Test.YtnpmgnfohaeonaaLabRef3
import Derived.Test.YtnpmgnfohaeonaaLabCheck
namespace Go.Proofs.Ytnpmgnfohaeonaa
set_option linter.unusedVariables false
set_option linter.unusedSimpArgs false
open Go.RowKit

set_option maxHeartbeats 8000000 in
set_option maxRecDepth 100000 in
theorem rcheck_any {w : World} {X : Nat → Prop} {A B : Option Addr} {c cb : Nat} (p : ProgT) (hF : Funcs w X A c p.funcs) (hM : Stmts w X B cb p.main) :
    Calls Try.prog 12 #[.agg #[.slice A p.funcs.length c, .slice B p.main.length cb]] w fun e w' => e = .returned (.int .i64 (checkv p)) ∧ Below w.heap.size w w' := by
  obtain ⟨gf, hgf⟩ : ∃ gf : FuncT → Bool, gf = fun f => f.body.any (tellS (prms p.funcs) (!great f.name)) := ⟨_, rfl⟩
  obtain ⟨mb, hmb⟩ : ∃ mb, p.main.any (tellS (prms p.funcs) true) = mb := ⟨_, rfl⟩
  have hbp : badP p = (mb || p.funcs.any gf) := by unfold badP; rw [hmb, hgf]
  have HBP : Hid (checkv p = if (mb || p.funcs.any gf) = true then 5 else 0) := Lib.hid (by unfold checkv; rw [hbp])
  obtain ⟨cv, hcv⟩ : ∃ cv, checkv p = cv := ⟨_, rfl⟩
  rw [hcv] at HBP ⊢
  obtain ⟨fs, hfs⟩ : ∃ fs, p.funcs = fs := ⟨_, rfl⟩
  rw [hfs] at hgf hmb hF HBP ⊢
  obtain ⟨mn, hmn⟩ : ∃ mn, p.main = mn := ⟨_, rfl⟩
  rw [hmn] at hmb hM ⊢
  clear hfs hmn hbp hcv
  have hmx : fs.length ≤ 8796093022208 := by obtain ⟨f, h1, _⟩ := hF; exact h1.max
  obtain ⟨fv, hF⟩ := hF
  obtain ⟨n, hn⟩ : ∃ n, n = fs.length := ⟨_, rfl⟩
  obtain ⟨k, hk⟩ : ∃ k, k = mn.length := ⟨_, rfl⟩
  rw [← hn] at hmx
  rw [← hn, ← hk]
  obtain ⟨wa, hwa⟩ : ∃ wa, wa = w.alloc (.cells #[.slice A n c, .slice B k cb] 25) := ⟨_, rfl⟩
  have hb0 : Below w.heap.size w wa := by rw [hwa]; exact (Below.refl _ _).alloc (Nat.le_refl _) _
  have hF0 := hF.kept (Below.chg hb0) (fun _ _ x => x)
  have hM0 := hM.keep hb0
  have hsb : wa.heap[w.heap.size]? = some (.cells #[.slice A n c, .slice B k cb] 25 (0, 0)) := by rw [hwa]; exact heap_new _ _
  have HF := Lib.hid hF0
  have HB0 := Lib.hid hb0
  have HSB : Hid (∀ wx, Below wa.heap.size wa wx → wx.cell? ⟨w.heap.size, 0, none⟩ = some (.slice A n c) ∧ wx.cell? ⟨w.heap.size, 1, none⟩ = some (.slice B k cb)) := Lib.hid (fun wx hb => by
    have h2 := (Below.chg hb).heap hsb (fun x => x)
    exact ⟨cell_of_block h2 0, cell_of_block h2 1⟩)
  have HN := Lib.hid hn
  have CM : Hid (Calls Try.prog 24 #[.agg #[.slice A n c, .slice B k cb], .slice B k cb, .bool true] wa fun e w' => e = .returned (.bool mb) ∧ Below wa.heap.size wa w') := Lib.hid (by
    have := rstmts_any (SizeOf.sizeOf mn + 1) mn (Nat.lt_succ_self _) wa X A B B c k cb cb n fs true hn ⟨fv, hF0⟩ hM0
    rw [hmb, ← hk] at this
    exact this)
  have HGF := Lib.hid hgf
  clear hgf hmb hF hM hF0 hM0 hb0 hn hk hsb
  go_enter Try.func12, Try.ntmps12
  go_upto_region 1 with fail
  rw [← hwa]
  clear hwa
  obtain ⟨p0, p1⟩ := HSB.out wa (Below.refl _ _)
  go_wp2_with fail
  refine CM.out.mono ?_; rintro e w1 ⟨rfl, hb1⟩
  clear p0 p1
  have HB1 := Lib.hid hb1
  clear hb1 CM
  go_wp2_with fail
  go_loopg [3, 4] n (fun k b v wr => ∃ j : Nat, j ≤ n ∧ k = n - j ∧ v = .int .i64 j ∧ b = .bool (mb || (fs.take j).any gf) ∧ Hid (Below wa.heap.size wa wr))
  case atStart => exact ⟨0, by omega, rfl, rfl, by simp, HB1⟩
  case round =>
    obtain ⟨j, hj, hkk, rfl, rfl, HB⟩ := hrel
    have HKK := Lib.hid hkk
    clear hkk HB1
    obtain ⟨bd, hbd⟩ : ∃ bd, (mb || (fs.take j).any gf) = bd := ⟨_, rfl⟩
    rw [hbd]
    have HBD := Lib.hid hbd
    clear hbd
    by_cases hlt : j < n
    · have hjl : j < fs.length := by rw [← HN.out]; exact hlt
      have hFr := HF.out.kept (Below.chg HB.out) (fun _ _ x => x)
      obtain ⟨b, off, rfl, hx⟩ := hFr.1.at_ (by omega)
      have hat := (hx j hjl).2.2
      have d0 := hat 0 _ rfl
      have d2 := hat 2 _ rfl
      have hif := hFr.2 j fs[j] (List.getElem?_eq_getElem hjl)
      have htk := List.take_succ_eq_append_getElem hjl
      obtain ⟨fx, hfx⟩ : ∃ fx, fs[j] = fx := ⟨_, rfl⟩
      rw [hfx] at hif htk
      obtain ⟨v, hv⟩ : ∃ v, fv j = v := ⟨_, rfl⟩
      rw [hv] at d0 d2 hif
      obtain ⟨vn, vpa, vpn, vpc, vba, vbn, vbc⟩ := v
      have hvb : vbn = fx.body.length := hif.bn
      have hvn : vn = fx.name := hif.name
      simp only [Nat.add_zero] at d0
      obtain ⟨g, hg⟩ : ∃ g, great vn = g := ⟨_, rfl⟩
      obtain ⟨gx, hgx2⟩ : ∃ gx, gf fx = gx := ⟨_, rfl⟩
      have hgx : gx = fx.body.any (tellS (prms fs) (!g)) := by rw [← hgx2, HGF.out, ← hg, hvn]
      obtain ⟨p0, p1⟩ := HSB.out wr HB.out
      obtain ⟨wd, hwd⟩ : ∃ wd, wd = wr.drew := ⟨_, rfl⟩
      have hbd : Below wr.heap.size wr wd := by rw [hwd]; exact (Below.refl _ _).drew
      have hS0 : wd.cell? ⟨w.heap.size, 0, none⟩ = some (.slice (some ⟨b, off, none⟩) n c) ∧ wd.cell? ⟨w.heap.size, 1, none⟩ = some (.slice B k cb) ∧ wd.cell? ⟨b, off + j * 3 + 2, none⟩ = some (.slice vba vbn vbc) := by
        rw [hwd]
        exact ⟨p0, p1, d2⟩
      have CB : Hid (Calls Try.prog 24 #[.agg #[.slice (some ⟨b, off, none⟩) n c, .slice B k cb], .slice vba vbn vbc, .bool (!g)] wd fun e w' => e = .returned (.bool gx) ∧ Below wd.heap.size wd w') := Lib.hid (by
        have := rstmts_any (SizeOf.sizeOf fx.body + 1) fx.body (Nat.lt_succ_self _) wd X (some ⟨b, off, none⟩) B vba c k cb vbc n fs (!g) HN.out ⟨fv, hFr.kept (Below.chg hbd) (fun _ _ x => x)⟩ (hif.body.keep hbd)
        rw [← hvb, ← hgx] at this
        exact this)
      have HBDW := Lib.hid hbd
      have HJ : Hid ((mb || (fs.take (j + 1)).any gf) = (bd || gx)) := Lib.hid (by
        rw [htk, List.any_append, ← HBD.out, Bool.or_assoc]
        congr 2
        simp only [List.any_cons, List.any_nil, Bool.or_false]
        exact hgx2)
      have HG := Lib.hid hg
      have HWD := Lib.hid hwd
      have HV := Lib.hid hv
      clear hg hwd hv hgx hgx2 hvb hvn hif htk hfx hat hx hFr hbd hjl
      go_wp2_with fail
      refine (rgreat_any _ _).mono ?_; rintro e w3 ⟨rfl, rfl⟩
      rw [HG.out]
      go_upto_region 6 with fail
      refine wp_region_ord (S := fun w' => w'.cell? ⟨w.heap.size, 0, none⟩ = some (.slice (some ⟨b, off, none⟩) n c) ∧ w'.cell? ⟨w.heap.size, 1, none⟩ = some (.slice B k cb) ∧ w'.cell? ⟨b, off + j * 3 + 2, none⟩ = some (.slice vba vbn vbc)) (N := fun i => i != 9) (by kernel_rfl) [(0, true), (1, true), (2, true), (3, true), (4, true), (5, true), (6, true), (7, true), (8, true), (9, false), (10, true)] (by kernel_rfl) ?_
      rw [← HWD.out]
      iterate 9 (refine ord_look rfl hS0 rfl (by intro w hS; obtain ⟨h1, h2, h3⟩ := hS; go_simp; with_reducible rfl) (fun c a w h => h) ?_; try simp only [Act.put, List.setIfInBounds_toArray, List.set_cons_succ, List.set_cons_zero])
      refine ord_act rfl rfl (fun K hK => ?_)
      refine wp_call 24 _ _ Try.func24 rfl (by kernel_rfl) _ _ rfl #[.agg #[.slice (some ⟨b, off, none⟩) n c, .slice B k cb], .slice vba vbn vbc, .bool (!g)] (by simp [Act.eval]) (R := fun v w1 => v = .bool gx ∧ Below wd.heap.size wd w1) (calls_ret CB.out (by rintro e w1 ⟨rfl, h⟩; exact ⟨_, rfl, rfl, h⟩)) ?_
      rintro v w5 ⟨rfl, hb5⟩
      have hS5 : w5.cell? ⟨w.heap.size, 0, none⟩ = some (.slice (some ⟨b, off, none⟩) n c) ∧ w5.cell? ⟨w.heap.size, 1, none⟩ = some (.slice B k cb) ∧ w5.cell? ⟨b, off + j * 3 + 2, none⟩ = some (.slice vba vbn vbc) := by
        obtain ⟨h1, h2, h3⟩ := hS0
        exact ⟨(hb5.cell (World.block_lt_of_cell? _ _ h1)).trans h1, (hb5.cell (World.block_lt_of_cell? _ _ h2)).trans h2, (hb5.cell (World.block_lt_of_cell? _ _ h3)).trans h3⟩
      refine hK _ _ ⟨fun _ => hS5, ?_⟩
      clear hK K
      try simp only [Act.put, List.setIfInBounds_toArray, List.set_cons_succ, List.set_cons_zero]
      refine ord_look rfl hS5 rfl (by intro w hS; obtain ⟨h1, h2, h3⟩ := hS; go_simp; with_reducible rfl) (fun c a w h => h) ?_; try simp only [Act.put, List.setIfInBounds_toArray, List.set_cons_succ, List.set_cons_zero]
      refine ord_end ?_
      have HB5 : Hid (Below wa.heap.size wa w5) := Lib.hid (bel_trans HB.out (bel_trans HBDW.out hb5))
      clear hS0 hS5 hb5 CB d0 d2 p0 p1
      cases bd with
      | true =>
        go_wp2_with fail
        go_roundg (n - (j + 1))
        case measure => have := HKK.out; omega
        case rel => exact ⟨j + 1, by omega, rfl, by go_num, by rw [HJ.out]; rfl, HB5⟩
      | false =>
        go_wp2_with fail
        go_roundg (n - (j + 1))
        case measure => have := HKK.out; omega
        case rel => exact ⟨j + 1, by omega, rfl, by go_num, by rw [HJ.out]; rfl, HB5⟩
    · have hjn : j = fs.length := by rw [← HN.out]; omega
      have hcv : cv = if bd = true then 5 else 0 := by
        have := HBD.out
        rw [hjn, List.take_length] at this
        rw [HBP.out, this]
      obtain ⟨p0, p1⟩ := HSB.out wr HB.out
      have HFIN : Hid (Below w.heap.size w wr) := Lib.hid (bel_trans HB0.out HB.out)
      clear HBP
      cases bd with
      | true =>
        obtain rfl : cv = 5 := hcv
        go_wp2_with fail
        go_ret
        exact ⟨rfl, HFIN.out⟩
      | false =>
        obtain rfl : cv = 0 := hcv
        go_wp2_with fail
        go_ret
        exact ⟨rfl, HFIN.out⟩
end Go.Proofs.Ytnpmgnfohaeonaa
