/- LabelDeep: the walk (under way). -/
import Derived.Test.YtnpmgnfohaeonaaLabDeep
import Derived.Test.YtnpmgnfohaeonaaLabApp
import Derived.Deep.CutBlock
namespace Go.Proofs.Ytnpmgnfohaeonaa
set_option linter.unusedVariables false
set_option linter.unusedSimpArgs false
open Go.RowKit

theorem nest_at {w : World} {R b P : Nat} {op : Int} {nm : ByteArray} {t : StmtT} (hR : w.heap[R]? = some (.cells #[.int .i64 op, .string ⟨#[]⟩, .int .i64 0, .slice (some ⟨b, 0, none⟩) 1 1, .slice (some ⟨P, 0, none⟩) 1 1, .slice none 0 0] 42 (0, 0))) (hb : w.heap[b]? = some (.cells #[.int .i64 2, .int .i64 0, .string nm, .slice none 0 0] 28 (0, 0))) (hn : nm.size ≤ 140737488351232) (ht : Stmts w (Lt w) (some ⟨P, 0, none⟩) 1 [t]) :
    Stmts w (Lt w) (some ⟨R, 0, none⟩) 1 [.mk op ⟨#[]⟩ 0 [varT nm] [t] []] :=
  stmts_one (ds := [.int .i64 op, .string ⟨#[]⟩, .int .i64 0, .slice (some ⟨b, 0, none⟩) 1 1, .slice (some ⟨P, 0, none⟩) 1 1, .slice none 0 0]) hR (lt_of_heap hR) (isStmt_of (by decide) (var_at hb hn) ht (stmts_nil _ _) rfl rfl rfl)
theorem Funcs.mono {w : World} {X Y : Nat → Prop} {A : Option Addr} {c : Nat} {l : List FuncT} (h : Funcs w X A c l) (hY : ∀ k, X k → Y k) : Funcs w Y A c l := by
  obtain ⟨fv, h1, h2⟩ := h
  exact ⟨fv, h1.mono hY, fun j x hx => by
    have h := h2 j x hx
    exact ⟨h.name, h.size, h.pn, ⟨h.params.1.mono hY, h.params.2⟩, h.bn, h.body.mono hY⟩⟩
theorem Stmts.up {w w' : World} {A : Option Addr} {c : Nat} {l : List StmtT} (h : Stmts w (Lt w) A c l) (hb : Below w.heap.size w w') : Stmts w' (Lt w') A c l := by
  obtain ⟨f, h1, h2⟩ := h.keep hb
  exact ⟨f, h1.mono (fun k hk => Nat.lt_of_lt_of_le hk hb.size), fun j x hx => (h2 j x hx).mono (fun k hk => Nat.lt_of_lt_of_le hk hb.size)⟩

set_option maxHeartbeats 16000000 in
set_option maxRecDepth 100000 in
theorem labelDeep_walk (tp : ProgT) (cp : List Value) (dp : Int) (w : World) (hp : rdProgS.K w tp cp) (hdp : (Lit.int .i64 dp).wf = true) :
    Calls Try.prog 6 #[.agg cp.toArray, .int .i64 dp] w fun e w' => e = .returned (.bool true) ∧ Below w.heap.size w w' := by
  suffices hh : ∀ b0, b0 = w.heap.size → Calls Try.prog 6 #[.agg cp.toArray, .int .i64 dp] w fun e w' => e = .returned (.bool true) ∧ Below b0 w w' from hh _ rfl
  intro b0 hb0
  obtain ⟨A, c, B, cb, rfl, hF, hM, hlen⟩ := hp
  obtain ⟨cv, hcv⟩ : ∃ cv, checkv tp = cv := ⟨_, rfl⟩
  have HCV := Lib.hid hcv
  obtain ⟨nf, hnf⟩ : ∃ nf, nf = tp.funcs.length := ⟨_, rfl⟩
  obtain ⟨nm, hnm⟩ : ∃ nm, nm = tp.main.length := ⟨_, rfl⟩
  have C1 : Hid (∀ wx, Below w.heap.size w wx → Calls Try.prog 11 #[.agg #[.slice A nf c, .slice B nm cb]] wx fun e w' => e = .returned (.int .i64 cv) ∧ Below wx.heap.size wx w') := Lib.hid (fun wx hb => by
    rw [← hcv, hnf, hnm]
    exact check_any tp (hF.kept (Below.chg hb) (fun _ _ x => x)) (hM.keep hb) (fun k hk => Nat.lt_of_lt_of_le hk hb.size))
  have HF := Lib.hid hF
  have HMN := Lib.hid hM
  rw [← hnm] at hlen
  have HNM := Lib.hid (And.intro hnf hnm)
  rw [← hnf, ← hnm]
  clear hF hM hcv hnf hnm
  have HBB : Hid (Below b0 w (w.alloc (.cells #[.slice A nf c, .slice B nm cb] 25))) := Lib.hid (by rw [hb0]; exact (Below.refl _ _).alloc (Nat.le_refl _) _)
  have HW := Lib.hid hb0
  obtain ⟨m, hm⟩ : ∃ m, bits .and .i64 dp 31 = m := ⟨_, rfl⟩
  have hm0 : 0 ≤ m ∧ m ≤ 31 := by rw [← hm, and_mask5]; omega
  obtain ⟨hm0, hm1⟩ := hm0
  show Calls Try.prog 6 #[.agg #[.slice A nf c, .slice B nm cb], .int .i64 dp] w _
  go_enter Try.func6, Try.ntmps6
  go_wp2_with fail
  refine (shown_any _).mono ?_; rintro e w1 ⟨rfl, hb1⟩
  have hbx1 : w1.heap[b0]? = some (.cells #[.slice A nf c, .slice B nm cb] 25 (0, 0)) := (Below.chg hb1).heap (by rw [hb0]; exact heap_new _ _) (fun x => x)
  have hb1' : Below b0 w w1 := HBB.out.trans (hb1.mono (by simp; omega))
  rw [← hb0]
  clear hb0 hb1
  have q0 := cell_of_block hbx1 0
  have q1 := cell_of_block hbx1 1
  simp at q0 q1
  go_wp2_with fail
  refine (C1.out w1 (by rw [← HW.out]; exact hb1')).mono ?_; rintro e w2 ⟨rfl, hb2⟩
  clear q0 q1
  have H2 : Hid (w2.heap[b0]? = some (.cells #[.slice A nf c, .slice B nm cb] 25 (0, 0)) ∧ Below b0 w w2) := Lib.hid ⟨(Below.chg hb2).heap hbx1 (fun x => x), hb1'.trans (hb2.mono (by have := lt_of_heap hbx1; omega))⟩
  clear hb2 hbx1 hb1'
  go_wp2_with fail
  refine (name_any _ _).mono ?_; rintro e w3 ⟨rfl, hb3⟩
  obtain ⟨B1, hB1⟩ : ∃ B1, B1 = w3.heap.size := ⟨_, rfl⟩
  obtain ⟨wA, hwA⟩ : ∃ wA, wA = (w3.alloc (.cells #[.int .i64 2, .int .i64 0, .string ⟨#[83]⟩, .slice none 0 0] 28)).alloc (.cells #[.int .i64 5, .string ⟨#[]⟩, .int .i64 0, .slice (some ⟨B1, 0, none⟩) 1 1, .slice none 0 0, .slice none 0 0] 42) := ⟨_, rfl⟩
  have hvB1 : wA.heap[B1]? = some (.cells #[.int .i64 2, .int .i64 0, .string ⟨#[83]⟩, .slice none 0 0] 28 (0, 0)) := by rw [hwA]; exact heap_old (heap_new' hB1.symm)
  have hsB1 : wA.heap[B1 + 1]? = some (.cells #[.int .i64 5, .string ⟨#[]⟩, .int .i64 0, .slice (some ⟨B1, 0, none⟩) 1 1, .slice none 0 0, .slice none 0 0] 42 (0, 0)) := by rw [hwA]; exact heap_new' (by simp [hB1])
  have hbB1 : Below w3.heap.size w3 wA := by rw [hwA]; exact ((Below.refl _ _).alloc (Nat.le_refl _) _).alloc (by simp) _
  have HP1 : Hid (Stmts wA (Lt wA) (some ⟨B1 + 1, 0, none⟩) 1 [printT ⟨#[83]⟩]) := Lib.hid (while_at hsB1 hvB1 (small1 _))
  have HA := Lib.hid (bel_trans hb3 hbB1)
  clear hvB1 hsB1 hbB1 hb3
  go_wp2_with fail
  rw [← hB1, ← hwA]
  clear hB1 hwA
  refine (name_any _ _).mono ?_; rintro e w4 ⟨rfl, hb4⟩
  obtain ⟨G1, hG1⟩ : ∃ G1, G1 = w4.heap.size := ⟨_, rfl⟩
  obtain ⟨wG, hwG⟩ : ∃ wG, wG = (w4.alloc (.cells #[.int .i64 2, .int .i64 0, .string ⟨#[115]⟩, .slice none 0 0] 28)).alloc (.cells #[.int .i64 5, .string ⟨#[]⟩, .int .i64 0, .slice (some ⟨G1, 0, none⟩) 1 1, .slice none 0 0, .slice none 0 0] 42) := ⟨_, rfl⟩
  have hvG1 : wG.heap[G1]? = some (.cells #[.int .i64 2, .int .i64 0, .string ⟨#[115]⟩, .slice none 0 0] 28 (0, 0)) := by rw [hwG]; exact heap_old (heap_new' hG1.symm)
  have hsG1 : wG.heap[G1 + 1]? = some (.cells #[.int .i64 5, .string ⟨#[]⟩, .int .i64 0, .slice (some ⟨G1, 0, none⟩) 1 1, .slice none 0 0, .slice none 0 0] 42 (0, 0)) := by rw [hwG]; exact heap_new' (by simp [hG1])
  have hbG1 : Below w4.heap.size w4 wG := by rw [hwG]; exact ((Below.refl _ _).alloc (Nat.le_refl _) _).alloc (by simp) _
  have HG1 : Hid (Stmts wG (Lt wG) (some ⟨G1 + 1, 0, none⟩) 1 [printT ⟨#[115]⟩]) := Lib.hid (while_at hsG1 hvG1 (small1 _))
  have HP2 : Hid (Stmts wG (Lt wG) (some ⟨B1 + 1, 0, none⟩) 1 [printT ⟨#[83]⟩]) := Lib.hid (HP1.out.up (bel_trans hb4 hbG1))
  have HG := Lib.hid (bel_trans HA.out (bel_trans hb4 hbG1))
  clear hvG1 hsG1 hbG1 hb4
  have hmm : m = (m.toNat : Int) := by omega
  obtain ⟨mn, hmn⟩ : ∃ mn, m.toNat = mn := ⟨_, rfl⟩
  rw [hmn] at hmm
  have HMM := Lib.hid hmm
  clear hmm
  go_upto_region 6 with fail
  rw [← hG1, ← hwG]
  clear hG1 hwG
  go_wp2_with fail
  go_loopg [7, 8, 9] mn (fun k vb vg i wr => ∃ (j PB PG : Nat), j ≤ mn ∧ k = mn - j ∧ i = .int .i64 j ∧ vb = .slice (some ⟨PB, 0, none⟩) 1 1 ∧ vg = .slice (some ⟨PG, 0, none⟩) 1 1 ∧ Hid (Stmts wr (Lt wr) (some ⟨PB, 0, none⟩) 1 [nestT j (printT ⟨#[83]⟩)]) ∧ Hid (Stmts wr (Lt wr) (some ⟨PG, 0, none⟩) 1 [nestT j (printT ⟨#[115]⟩)]) ∧ Hid (Below w2.heap.size w2 wr))
  case atStart => exact ⟨0, _, _, by omega, rfl, rfl, rfl, rfl, HP2, HG1, HG⟩
  case round =>
    clear HP1 HP2 HG1 HA HG
    obtain ⟨j, PB, PG, hj, hk, rfl, rfl, rfl, HPB, HPG, HB⟩ := hrel
    have HK := Lib.hid hk
    clear hk
    by_cases hlt : j < mn
    · have hltI : (j : Int) < m := by have := HMM.out; omega
      obtain ⟨o, ho⟩ : ∃ o : Int, o = 7 + ((j % 2 : Nat) : Int) := ⟨_, rfl⟩
      have HO := Lib.hid ho
      clear ho
      go_upto_region 9 with fail
      go_cut [10] from 31 to 33 (fun v wx => v = .int .i64 o ∧ wx = wr)
      case first =>
        go_wp2_with fail
        go_meet
        case rel => exact ⟨by rw [HO.out]; congr 1, rfl⟩
      case rest =>
        obtain ⟨rfl, hwc⟩ := hcut
        rw [hwc]
        clear hwc
        go_wp2_with fail
        refine (name_any _ _).mono ?_; rintro e w8 ⟨rfl, hb8⟩
        obtain ⟨N1, hN1⟩ : ∃ N1, N1 = w8.heap.size := ⟨_, rfl⟩
        obtain ⟨wN, hwN⟩ : ∃ wN, wN = (w8.alloc (.cells #[.int .i64 2, .int .i64 0, .string ⟨#[99]⟩, .slice none 0 0] 28)).alloc (.cells #[.int .i64 o, .string ⟨#[]⟩, .int .i64 0, .slice (some ⟨N1, 0, none⟩) 1 1, .slice (some ⟨PB, 0, none⟩) 1 1, .slice none 0 0] 42) := ⟨_, rfl⟩
        have hvN1 : wN.heap[N1]? = some (.cells #[.int .i64 2, .int .i64 0, .string ⟨#[99]⟩, .slice none 0 0] 28 (0, 0)) := by rw [hwN]; exact heap_old (heap_new' hN1.symm)
        have hsN1 : wN.heap[N1 + 1]? = some (.cells #[.int .i64 o, .string ⟨#[]⟩, .int .i64 0, .slice (some ⟨N1, 0, none⟩) 1 1, .slice (some ⟨PB, 0, none⟩) 1 1, .slice none 0 0] 42 (0, 0)) := by rw [hwN]; exact heap_new' (by simp [hN1])
        have hbN1 : Below w8.heap.size w8 wN := by rw [hwN]; exact ((Below.refl _ _).alloc (Nat.le_refl _) _).alloc (by simp) _
        have HN1 : Hid (Stmts wN (Lt wN) (some ⟨N1 + 1, 0, none⟩) 1 [nestT (j + 1) (printT ⟨#[83]⟩)]) := Lib.hid (by
          have := nest_at hsN1 hvN1 (small1 _) (HPB.out.up (bel_trans hb8 hbN1))
          rw [HO.out] at this
          exact this)
        have HPG2 := Lib.hid (HPG.out.up (bel_trans hb8 hbN1))
        have HB2 := Lib.hid (bel_trans HB.out (bel_trans hb8 hbN1))
        clear hvN1 hsN1 hbN1 hb8
        go_wp2_with fail
        rw [← hN1, ← hwN]
        clear hN1 hwN
        refine (name_any _ _).mono ?_; rintro e w9 ⟨rfl, hb9⟩
        obtain ⟨M1, hM1⟩ : ∃ M1, M1 = w9.heap.size := ⟨_, rfl⟩
        obtain ⟨wM, hwM⟩ : ∃ wM, wM = (w9.alloc (.cells #[.int .i64 2, .int .i64 0, .string ⟨#[99]⟩, .slice none 0 0] 28)).alloc (.cells #[.int .i64 o, .string ⟨#[]⟩, .int .i64 0, .slice (some ⟨M1, 0, none⟩) 1 1, .slice (some ⟨PG, 0, none⟩) 1 1, .slice none 0 0] 42) := ⟨_, rfl⟩
        have hvM1 : wM.heap[M1]? = some (.cells #[.int .i64 2, .int .i64 0, .string ⟨#[99]⟩, .slice none 0 0] 28 (0, 0)) := by rw [hwM]; exact heap_old (heap_new' hM1.symm)
        have hsM1 : wM.heap[M1 + 1]? = some (.cells #[.int .i64 o, .string ⟨#[]⟩, .int .i64 0, .slice (some ⟨M1, 0, none⟩) 1 1, .slice (some ⟨PG, 0, none⟩) 1 1, .slice none 0 0] 42 (0, 0)) := by rw [hwM]; exact heap_new' (by simp [hM1])
        have hbM1 : Below w9.heap.size w9 wM := by rw [hwM]; exact ((Below.refl _ _).alloc (Nat.le_refl _) _).alloc (by simp) _
        have HM1 : Hid (Stmts wM (Lt wM) (some ⟨M1 + 1, 0, none⟩) 1 [nestT (j + 1) (printT ⟨#[115]⟩)]) := Lib.hid (by
          have := nest_at hsM1 hvM1 (small1 _) (HPG2.out.up (bel_trans hb9 hbM1))
          rw [HO.out] at this
          exact this)
        have HN2 := Lib.hid (HN1.out.up (bel_trans hb9 hbM1))
        have HB3 := Lib.hid (bel_trans HB2.out (bel_trans hb9 hbM1))
        clear hvM1 hsM1 hbM1 hb9
        go_wp2_with fail
        rw [← hM1, ← hwM]
        clear hM1 hwM
        go_roundg (mn - (j + 1))
        case measure => have := HK.out; omega
        case rel => exact ⟨j + 1, _, _, by omega, rfl, by go_num, rfl, rfl, HN2, HM1, HB3⟩
    · have hltI : ¬ (j : Int) < m := by have := HMM.out; omega
      have hjm : j = mn := by omega
      subst hjm
      have hSr : wr.heap[b0]? = some (.cells #[.slice A nf c, .slice B nm cb] 25 (0, 0)) := (Below.chg HB.out).heap H2.out.1 (fun x => x)
      have SCX : ∀ wx : World, wx.heap[b0]? = some (.cells #[.slice A nf c, .slice B nm cb] 25 (0, 0)) → wx.cell? ⟨b0, 0, none⟩ = some (.slice A nf c) ∧ wx.cell? ⟨b0, 1, none⟩ = some (.slice B nm cb) := fun wx h => ⟨cell_of_block h 0, cell_of_block h 1⟩
      have SCX := Lib.hid SCX
      have hbw : Below w.heap.size w wr := by
        have h := H2.out.2
        rw [HW.out] at h
        exact bel_trans h HB.out
      go_upto_region 12 with fail
      go_cut [11] from 46 to 54 (fun v wx => ∃ (pb : Nat) (A' : Option Addr) (c' : Nat), v = .pointer (some ⟨pb, 0, none⟩) ∧ Hid (wx.heap[pb]? = some (.cells #[.slice A nf c, .slice A' (nm + 1) c'] 25 (0, 0)) ∧ Stmts wx (Lt wx) A' c' (tp.main ++ [nestT j (printT ⟨#[83]⟩)]) ∧ Below wr.heap.size wr wx))
      case first =>
        obtain ⟨rows0, r0a, r0b, r0c, r0d⟩ := stmts_rows (HMN.out.up hbw)
        obtain ⟨rows1, r1a, r1b, r1c, r1d⟩ := stmts_rows HPB.out
        have SRC0 : Hid (∀ wx, Below wr.heap.size wr wx → 0 < nm → ∃ b off, B = some ⟨b, off, none⟩ ∧ ∀ (j : Nat) u, rows0.flatten[j]? = some u → wx.cell? ⟨b, off + j, none⟩ = some u) := Lib.hid (fun wx hb h0 => by
          obtain ⟨b, off, e, hc⟩ := r0d (by rw [← HNM.out.2]; exact h0)
          exact ⟨b, off, e, fun j u hu => (hb.cell (World.block_lt_of_cell? _ _ (hc j u hu))).trans (hc j u hu)⟩)
        have SRC1 : Hid (∀ wx, Below wr.heap.size wr wx → 0 < 1 → ∃ b off, some (⟨PB, 0, none⟩ : Addr) = some ⟨b, off, none⟩ ∧ ∀ (j : Nat) u, rows1.flatten[j]? = some u → wx.cell? ⟨b, off + j, none⟩ = some u) := Lib.hid (fun wx hb h0 => by
          obtain ⟨b, off, e, hc⟩ := r1d (by simp)
          exact ⟨b, off, e, fun j u hu => (hb.cell (World.block_lt_of_cell? _ _ (hc j u hu))).trans (hc j u hu)⟩)
        have L0 : rows0.flatten.length = nm * 6 := by rw [flatK_length 6 _ r0b, r0a, HNM.out.2]
        have L1 : rows1.flatten.length = 1 * 6 := by rw [flatK_length 6 _ r1b, r1a]; rfl
        have O0 : ∀ u ∈ rows0.flatten, u.oneCell' = true := fun u hu => by
          obtain ⟨ds, hd, hu⟩ := List.mem_flatten.1 hu
          obtain ⟨i, hi, rfl⟩ := List.getElem_of_mem hd
          obtain ⟨ds', e, h⟩ := r0c i tp.main[i] (List.getElem?_eq_getElem (by omega))
          rw [List.getElem?_eq_getElem hi] at e
          injection e with e
          exact isStmt_one h u (by rw [← e]; exact hu)
        have O1 : ∀ u ∈ rows1.flatten, u.oneCell' = true := fun u hu => by
          obtain ⟨ds, hd, hu⟩ := List.mem_flatten.1 hu
          obtain ⟨i, hi, rfl⟩ := List.getElem_of_mem hd
          have hi0 : i = 0 := by simp at r1a; omega
          subst hi0
          obtain ⟨ds', e, h⟩ := r1c 0 _ rfl
          rw [List.getElem?_eq_getElem hi] at e
          injection e with e
          exact isStmt_one h u (by rw [← e]; exact hu)
        have HR := Lib.hid (And.intro r0a (And.intro r0b (And.intro r0c (And.intro r1a (And.intro r1b r1c)))))
        have HL01 := Lib.hid (And.intro L0 (And.intro L1 (And.intro O0 O1)))
        clear r0a r0b r0c r0d r1a r1b r1c r1d L0 L1 O0 O1
        obtain ⟨i0, hi, hz0, hz1, hz2⟩ := info_parts infoStmt
        obtain ⟨wd, hwd⟩ : ∃ wd, wd = wr.drew := ⟨_, rfl⟩
        have hb : Below wr.heap.size wr wd := by rw [hwd]; exact (Below.refl _ _).drew
        have hS : wd.heap[b0]? = some (.cells #[.slice A nf c, .slice B nm cb] 25 (0, 0)) := (Below.chg hb).heap hSr (fun x => x)
        refine wp_region_tree (S := fun w' => w'.heap[b0]? = some (.cells #[.slice A nf c, .slice B nm cb] 25 (0, 0))) (N := fun i => true) (by kernel_rfl) (.look 0 (.look 1 (.look 3 (.look 4 (.look 6 (.fork 2 (.fork 5 (.fork 7 (.look 8 (.act 9 (.act 10 .done))) 9 (.act 7 (.look 8 (.act 10 .done)))) 9 (.act 5 (.act 7 (.look 8 (.act 10 .done))))) 9 (.act 2 (.act 5 (.act 7 (.look 8 (.act 10 .done))))))))))) (by kernel_rfl) ?_
        rw [← hwd]
        clear hwd
        iterate 5 (refine tree_look rfl hS rfl (by intro w hS; obtain ⟨p0, p1⟩ := SCX.out w hS; go_simp; with_reducible rfl) (fun c a w h => h) ?_; try simp only [Act.put, List.setIfInBounds_toArray, List.set_cons_succ, List.set_cons_zero])
        refine tree_fork rfl rfl rfl rfl (fun K hK => ?_) (fun K hK => ?_)
        · skip
          go_simp
          obtain ⟨x18, hx⟩ : ∃ x18, x18 = wd.alloc (.cells #[] 42) := ⟨_, rfl⟩
          obtain ⟨g, hg⟩ : ∃ g, g = wd.heap.size := ⟨_, rfl⟩
          rw [← hx, ← hg]
          have kx : Chg (fun _ => False) wd x18 := by rw [hx]; exact (Chg.refl _ _).alloc _
          have hG : x18.heap[g]? = some (.cells #[] 42 (0, 0)) := by rw [hx]; exact heap_new' hg.symm
          have hgz : wr.heap.size ≤ g := by rw [hg]; exact hb.size
          replace hb := bel_trans hb kx.to_below
          replace hS := kx.heap hS (fun x => x)
          refine hK _ _ ⟨fun _ => hS, ?_⟩
          clear hK K hx hg kx
          try simp only [Act.put, List.setIfInBounds_toArray, List.set_cons_succ, List.set_cons_zero]
          refine tree_fork rfl rfl rfl rfl (fun K hK => ?_) (fun K hK => ?_)
          · skip
            refine wp_app (.tmp 48) (.tmp 50) 23 rfl 0 42 i0 _ 6 104 Try.underlying23 hi hz0 hz1 hz2 rfl (by omega) (.slice (some ⟨g, 0, none⟩) 0 0) 0 [] rfl ⟨rfl, .inr ⟨g, 0, #[], rfl, Nat.zero_le _, hG, Nat.le_refl _, by simp [maxLen], rfl, rfl⟩⟩ B nm cb rows0.flatten rfl HL01.out.1 (SRC0.out _ hb) HL01.out.2.2.1 (by unfold maxLen; omega) (by omega) (Nat.zero_le _) (fun v1 x19 ho hg1 hat1 => ?_)
            simp only [Nat.zero_add, List.nil_append] at ho
            have kx : Chg (fun k => some g = some k) x18 x19 := Chg.of_grown hg1
            have hb0l := lt_of_heap hSr
            replace hb : Below wr.heap.size wr x19 := hb.trans (kx.below (B := wr.heap.size) (fun k e => by injection e with e; omega) hb.size)
            have hv : ∀ k, v1.ownBlock = some k → wr.heap.size ≤ k := fun k hk => by
              have := lt_of_heap hG
              rcases hat1 with e | e
              · rw [e] at hk
                have hk : some g = some k := hk
                injection hk with hk
                omega
              · rw [e] at hk; injection hk with hk; omega
            replace hS := kx.heap hS (fun e => by injection e with e; omega)
            obtain ⟨_, A5, c5, rfl⟩ := ownsRow_slice ho
            refine hK _ _ ⟨fun _ => hS, ?_⟩
            clear hK K kx hat1 hg1 hG hgz
            try simp only [Act.put, List.setIfInBounds_toArray, List.set_cons_succ, List.set_cons_zero]
            refine tree_fork rfl rfl rfl rfl (fun K hK => ?_) (fun K hK => ?_)
            · skip
              refine wp_app (.tmp 51) (.tmp 52) 23 rfl 0 42 i0 _ 6 104 Try.underlying23 hi hz0 hz1 hz2 rfl (by omega) (.slice A5 nm c5) nm rows0.flatten rfl ho (some ⟨PB, 0, none⟩) 1 1 rows1.flatten rfl HL01.out.2.1 (SRC1.out _ hb) HL01.out.2.2.2 (by unfold maxLen; omega) (by omega) (Nat.zero_le _) (fun v2 x20 ho2 hg2 hat2 => ?_)
              have kx : Chg (fun k => (Value.slice A5 nm c5).ownBlock = some k) x19 x20 := Chg.of_grown hg2
              have hb0l := lt_of_heap hSr
              have hbz := hb.size
              replace hb : Below wr.heap.size wr x20 := hb.trans (kx.below (B := wr.heap.size) (fun k e => hv k e) hb.size)
              have hv2 : ∀ k, v2.ownBlock = some k → wr.heap.size ≤ k := fun k hk => by
                rcases hat2 with e | e
                · rw [e] at hk; exact hv k hk
                · rw [e] at hk; injection hk with hk; omega
              replace hS := kx.heap hS (fun e => by have := hv _ e; omega)
              obtain ⟨_, A7, c7, rfl⟩ := ownsRow_slice ho2
              clear ho hv
              have ho := ho2
              have hv := hv2
              clear ho2 hv2
              refine hK _ _ ⟨fun _ => hS, ?_⟩
              clear hK K kx hat2 hg2
              try simp only [Act.put, List.setIfInBounds_toArray, List.set_cons_succ, List.set_cons_zero]
              refine tree_look rfl hS rfl (by intro w hS; obtain ⟨p0, p1⟩ := SCX.out w hS; go_simp; with_reducible rfl) (fun c a w h => h) ?_
              try simp only [Act.put, List.setIfInBounds_toArray, List.set_cons_succ, List.set_cons_zero]
              refine tree_act rfl rfl (fun K hK => ?_)
              go_simp
              obtain ⟨x21, hx⟩ : ∃ x21, x21 = x20.alloc (.cells #[.slice none 0 0, .slice none 0 0] 25) := ⟨_, rfl⟩
              obtain ⟨pb, hpb⟩ : ∃ pb, pb = x20.heap.size := ⟨_, rfl⟩
              rw [← hx, ← hpb]
              have kx : Chg (fun _ => False) x20 x21 := by rw [hx]; exact (Chg.refl _ _).alloc _
              have hP : x21.heap[pb]? = some (.cells #[.slice none 0 0, .slice none 0 0] 25 (0, 0)) := by rw [hx]; exact heap_new' hpb.symm
              have hpz : wr.heap.size ≤ pb := by rw [hpb]; exact hb.size
              have hne : ∀ k, (Value.slice A7 (nm + 1) c7).ownBlock = some k → k ≠ pb := fun k hk => by rw [hpb]; exact Nat.ne_of_lt (ownsRow_lt ho k hk)
              replace ho := ownsRow_kept ho kx (fun _ _ x => x)
              replace hb := bel_trans hb kx.to_below
              replace hS := kx.heap hS (fun x => x)
              refine hK _ _ ⟨fun _ => hS, ?_⟩
              clear hK K hx hpb kx
              try simp only [Act.put, List.setIfInBounds_toArray, List.set_cons_succ, List.set_cons_zero]
              refine tree_act rfl rfl (fun K hK => ?_)
              have y0 := cell_of_block hP 0
              have y1 := cell_of_block hP 1
              have z0 := frozen_of_block hP 0
              have z1 := frozen_of_block hP 1
              simp at y0 y1
              have hE := heap_set (heap_set hP 0 (.slice A nf c)) 1 (.slice A7 (nm + 1) c7)
              have hHE := Lib.hid hE
              clear hE
              go_simp
              obtain ⟨x22, hx⟩ : ∃ x22, x22 = (x21.setCell ⟨pb, 0, none⟩ (.slice A nf c)).setCell ⟨pb, 1, none⟩ (.slice A7 (nm + 1) c7) := ⟨_, rfl⟩
              have kx : Chg (fun k => k = pb) x21 x22 := by rw [hx]; exact ((Chg.refl (fun k => k = pb) x21).setCell (p := ⟨pb, 0, none⟩) (fun _ => rfl) _).setCell (p := ⟨pb, 1, none⟩) (fun _ => rfl) _
              rw [← hx]
              have hb0l := lt_of_heap hSr
              have hSe := kx.heap hS (by omega)
              refine hK _ _ ⟨fun _ => hSe, ?_⟩
              clear hK K
              refine tree_end ?_
              have hbe : Below wr.heap.size wr x22 := hb.trans (kx.below (B := wr.heap.size) (fun k e => by omega) hb.size)
              have hxeP : x22.heap[pb]? = some (.cells #[.slice A nf c, .slice A7 (nm + 1) c7] 25 (0, 0)) := by rw [hx]; exact hHE.out
              have hoe := ownsRow_kept ho kx (fun k hk e => hne k hk e)
              rw [← List.flatten_append] at hoe
              obtain ⟨r0a, r0b, r0c, r1a, r1b, r1c⟩ := HR.out
              have hst : Stmts x22 (Lt x22) A7 c7 (tp.main ++ [nestT j (printT ⟨#[83]⟩)]) := stmts_own (rows := rows0 ++ rows1) hoe (by rw [List.length_append, r0a, r1a, HNM.out.2]; rfl) (fun ds hd => by
                rcases List.mem_append.1 hd with hd | hd
                · exact r0b ds hd
                · exact r1b ds hd) (by rw [List.length_append, HNM.out.2]; rfl) (fun i t ht => by
                by_cases hlt : i < tp.main.length
                · rw [List.getElem?_append_left hlt] at ht
                  obtain ⟨ds, e, h⟩ := r0c i t ht
                  exact ⟨ds, by rw [List.getElem?_append_left (by omega)]; exact e, (h.kept (Below.chg hbe) (fun _ _ x => x)).mono (fun k hk => Nat.lt_of_lt_of_le hk hbe.size)⟩
                · rw [List.getElem?_append_right (by omega)] at ht
                  obtain ⟨ds, e, h⟩ := r1c _ t ht
                  exact ⟨ds, by rw [List.getElem?_append_right (by omega), r0a]; exact e, (h.kept (Below.chg hbe) (fun _ _ x => x)).mono (fun k hk => Nat.lt_of_lt_of_le hk hbe.size)⟩) (by omega)
              have HRES := Lib.hid (And.intro hxeP (And.intro hst hbe))
              clear hx hxeP hoe hst r0a r0b r0c r1a r1b r1c
              go_wp2_with fail
              go_meet
              case rel => exact ⟨pb, A7, c7, rfl, HRES⟩
            · skip
              go_simp
              obtain ⟨x23, hx⟩ : ∃ x23, x23 = x19.alloc (.cells #[.slice none 0 0, .slice none 0 0] 25) := ⟨_, rfl⟩
              obtain ⟨pb, hpb⟩ : ∃ pb, pb = x19.heap.size := ⟨_, rfl⟩
              rw [← hx, ← hpb]
              have kx : Chg (fun _ => False) x19 x23 := by rw [hx]; exact (Chg.refl _ _).alloc _
              have hP : x23.heap[pb]? = some (.cells #[.slice none 0 0, .slice none 0 0] 25 (0, 0)) := by rw [hx]; exact heap_new' hpb.symm
              have hpz : wr.heap.size ≤ pb := by rw [hpb]; exact hb.size
              have hne : ∀ k, (Value.slice A5 nm c5).ownBlock = some k → k ≠ pb := fun k hk => by rw [hpb]; exact Nat.ne_of_lt (ownsRow_lt ho k hk)
              replace ho := ownsRow_kept ho kx (fun _ _ x => x)
              replace hb := bel_trans hb kx.to_below
              replace hS := kx.heap hS (fun x => x)
              refine hK _ _ ⟨fun _ => hS, ?_⟩
              clear hK K hx hpb kx
              try simp only [Act.put, List.setIfInBounds_toArray, List.set_cons_succ, List.set_cons_zero]
              refine tree_act rfl rfl (fun K hK => ?_)
              refine wp_app (.tmp 51) (.tmp 52) 23 rfl 0 42 i0 _ 6 104 Try.underlying23 hi hz0 hz1 hz2 rfl (by omega) (.slice A5 nm c5) nm rows0.flatten rfl ho (some ⟨PB, 0, none⟩) 1 1 rows1.flatten rfl HL01.out.2.1 (SRC1.out _ hb) HL01.out.2.2.2 (by unfold maxLen; omega) (by omega) (Nat.zero_le _) (fun v2 x24 ho2 hg2 hat2 => ?_)
              have kx : Chg (fun k => (Value.slice A5 nm c5).ownBlock = some k) x23 x24 := Chg.of_grown hg2
              have hb0l := lt_of_heap hSr
              have hbz := hb.size
              replace hb : Below wr.heap.size wr x24 := hb.trans (kx.below (B := wr.heap.size) (fun k e => hv k e) hb.size)
              have hv2 : ∀ k, v2.ownBlock = some k → wr.heap.size ≤ k := fun k hk => by
                rcases hat2 with e | e
                · rw [e] at hk; exact hv k hk
                · rw [e] at hk; injection hk with hk; omega
              have hne7 : ∀ k, v2.ownBlock = some k → k ≠ pb := fun k hk => by
                have := lt_of_heap hP
                rcases hat2 with e | e
                · rw [e] at hk; exact hne k hk
                · rw [e] at hk; injection hk with hk; omega
              replace hP := kx.heap hP (fun e => hne _ e rfl)
              clear hne
              have hne := hne7
              clear hne7
              replace hS := kx.heap hS (fun e => by have := hv _ e; omega)
              obtain ⟨_, A7, c7, rfl⟩ := ownsRow_slice ho2
              clear ho hv
              have ho := ho2
              have hv := hv2
              clear ho2 hv2
              refine hK _ _ ⟨fun _ => hS, ?_⟩
              clear hK K kx hat2 hg2
              try simp only [Act.put, List.setIfInBounds_toArray, List.set_cons_succ, List.set_cons_zero]
              refine tree_look rfl hS rfl (by intro w hS; obtain ⟨p0, p1⟩ := SCX.out w hS; go_simp; with_reducible rfl) (fun c a w h => h) ?_
              try simp only [Act.put, List.setIfInBounds_toArray, List.set_cons_succ, List.set_cons_zero]
              refine tree_act rfl rfl (fun K hK => ?_)
              have y0 := cell_of_block hP 0
              have y1 := cell_of_block hP 1
              have z0 := frozen_of_block hP 0
              have z1 := frozen_of_block hP 1
              simp at y0 y1
              have hE := heap_set (heap_set hP 0 (.slice A nf c)) 1 (.slice A7 (nm + 1) c7)
              have hHE := Lib.hid hE
              clear hE
              go_simp
              obtain ⟨x25, hx⟩ : ∃ x25, x25 = (x24.setCell ⟨pb, 0, none⟩ (.slice A nf c)).setCell ⟨pb, 1, none⟩ (.slice A7 (nm + 1) c7) := ⟨_, rfl⟩
              have kx : Chg (fun k => k = pb) x24 x25 := by rw [hx]; exact ((Chg.refl (fun k => k = pb) x24).setCell (p := ⟨pb, 0, none⟩) (fun _ => rfl) _).setCell (p := ⟨pb, 1, none⟩) (fun _ => rfl) _
              rw [← hx]
              have hb0l := lt_of_heap hSr
              have hSe := kx.heap hS (by omega)
              refine hK _ _ ⟨fun _ => hSe, ?_⟩
              clear hK K
              refine tree_end ?_
              have hbe : Below wr.heap.size wr x25 := hb.trans (kx.below (B := wr.heap.size) (fun k e => by omega) hb.size)
              have hxeP : x25.heap[pb]? = some (.cells #[.slice A nf c, .slice A7 (nm + 1) c7] 25 (0, 0)) := by rw [hx]; exact hHE.out
              have hoe := ownsRow_kept ho kx (fun k hk e => hne k hk e)
              rw [← List.flatten_append] at hoe
              obtain ⟨r0a, r0b, r0c, r1a, r1b, r1c⟩ := HR.out
              have hst : Stmts x25 (Lt x25) A7 c7 (tp.main ++ [nestT j (printT ⟨#[83]⟩)]) := stmts_own (rows := rows0 ++ rows1) hoe (by rw [List.length_append, r0a, r1a, HNM.out.2]; rfl) (fun ds hd => by
                rcases List.mem_append.1 hd with hd | hd
                · exact r0b ds hd
                · exact r1b ds hd) (by rw [List.length_append, HNM.out.2]; rfl) (fun i t ht => by
                by_cases hlt : i < tp.main.length
                · rw [List.getElem?_append_left hlt] at ht
                  obtain ⟨ds, e, h⟩ := r0c i t ht
                  exact ⟨ds, by rw [List.getElem?_append_left (by omega)]; exact e, (h.kept (Below.chg hbe) (fun _ _ x => x)).mono (fun k hk => Nat.lt_of_lt_of_le hk hbe.size)⟩
                · rw [List.getElem?_append_right (by omega)] at ht
                  obtain ⟨ds, e, h⟩ := r1c _ t ht
                  exact ⟨ds, by rw [List.getElem?_append_right (by omega), r0a]; exact e, (h.kept (Below.chg hbe) (fun _ _ x => x)).mono (fun k hk => Nat.lt_of_lt_of_le hk hbe.size)⟩) (by omega)
              have HRES := Lib.hid (And.intro hxeP (And.intro hst hbe))
              clear hx hxeP hoe hst r0a r0b r0c r1a r1b r1c
              go_wp2_with fail
              go_meet
              case rel => exact ⟨pb, A7, c7, rfl, HRES⟩
          · skip
            go_simp
            obtain ⟨x26, hx⟩ : ∃ x26, x26 = x18.alloc (.cells #[.slice none 0 0, .slice none 0 0] 25) := ⟨_, rfl⟩
            obtain ⟨pb, hpb⟩ : ∃ pb, pb = x18.heap.size := ⟨_, rfl⟩
            rw [← hx, ← hpb]
            have kx : Chg (fun _ => False) x18 x26 := by rw [hx]; exact (Chg.refl _ _).alloc _
            have hP : x26.heap[pb]? = some (.cells #[.slice none 0 0, .slice none 0 0] 25 (0, 0)) := by rw [hx]; exact heap_new' hpb.symm
            have hpz : wr.heap.size ≤ pb := by rw [hpb]; exact hb.size
            have hne : g ≠ pb := by rw [hpb]; exact Nat.ne_of_lt (lt_of_heap hG)
            replace hG := kx.heap hG (fun x => x)
            replace hb := bel_trans hb kx.to_below
            replace hS := kx.heap hS (fun x => x)
            refine hK _ _ ⟨fun _ => hS, ?_⟩
            clear hK K hx hpb kx
            try simp only [Act.put, List.setIfInBounds_toArray, List.set_cons_succ, List.set_cons_zero]
            refine tree_act rfl rfl (fun K hK => ?_)
            refine wp_app (.tmp 48) (.tmp 50) 23 rfl 0 42 i0 _ 6 104 Try.underlying23 hi hz0 hz1 hz2 rfl (by omega) (.slice (some ⟨g, 0, none⟩) 0 0) 0 [] rfl ⟨rfl, .inr ⟨g, 0, #[], rfl, Nat.zero_le _, hG, Nat.le_refl _, by simp [maxLen], rfl, rfl⟩⟩ B nm cb rows0.flatten rfl HL01.out.1 (SRC0.out _ hb) HL01.out.2.2.1 (by unfold maxLen; omega) (by omega) (Nat.zero_le _) (fun v1 x27 ho hg1 hat1 => ?_)
            simp only [Nat.zero_add, List.nil_append] at ho
            have kx : Chg (fun k => some g = some k) x26 x27 := Chg.of_grown hg1
            have hb0l := lt_of_heap hSr
            replace hb : Below wr.heap.size wr x27 := hb.trans (kx.below (B := wr.heap.size) (fun k e => by injection e with e; omega) hb.size)
            have hv : ∀ k, v1.ownBlock = some k → wr.heap.size ≤ k := fun k hk => by
              have := lt_of_heap hG
              rcases hat1 with e | e
              · rw [e] at hk
                have hk : some g = some k := hk
                injection hk with hk
                omega
              · rw [e] at hk; injection hk with hk; omega
            have hne5 : ∀ k, v1.ownBlock = some k → k ≠ pb := fun k hk => by
              have := lt_of_heap hP
              rcases hat1 with e | e
              · rw [e] at hk
                have hk : some g = some k := hk
                injection hk with hk
                omega
              · rw [e] at hk; injection hk with hk; omega
            replace hP := kx.heap hP (fun e => by injection e with e; exact hne e)
            clear hne
            have hne := hne5
            clear hne5
            replace hS := kx.heap hS (fun e => by injection e with e; omega)
            obtain ⟨_, A5, c5, rfl⟩ := ownsRow_slice ho
            refine hK _ _ ⟨fun _ => hS, ?_⟩
            clear hK K kx hat1 hg1 hG hgz
            try simp only [Act.put, List.setIfInBounds_toArray, List.set_cons_succ, List.set_cons_zero]
            refine tree_act rfl rfl (fun K hK => ?_)
            refine wp_app (.tmp 51) (.tmp 52) 23 rfl 0 42 i0 _ 6 104 Try.underlying23 hi hz0 hz1 hz2 rfl (by omega) (.slice A5 nm c5) nm rows0.flatten rfl ho (some ⟨PB, 0, none⟩) 1 1 rows1.flatten rfl HL01.out.2.1 (SRC1.out _ hb) HL01.out.2.2.2 (by unfold maxLen; omega) (by omega) (Nat.zero_le _) (fun v2 x28 ho2 hg2 hat2 => ?_)
            have kx : Chg (fun k => (Value.slice A5 nm c5).ownBlock = some k) x27 x28 := Chg.of_grown hg2
            have hb0l := lt_of_heap hSr
            have hbz := hb.size
            replace hb : Below wr.heap.size wr x28 := hb.trans (kx.below (B := wr.heap.size) (fun k e => hv k e) hb.size)
            have hv2 : ∀ k, v2.ownBlock = some k → wr.heap.size ≤ k := fun k hk => by
              rcases hat2 with e | e
              · rw [e] at hk; exact hv k hk
              · rw [e] at hk; injection hk with hk; omega
            have hne7 : ∀ k, v2.ownBlock = some k → k ≠ pb := fun k hk => by
              have := lt_of_heap hP
              rcases hat2 with e | e
              · rw [e] at hk; exact hne k hk
              · rw [e] at hk; injection hk with hk; omega
            replace hP := kx.heap hP (fun e => hne _ e rfl)
            clear hne
            have hne := hne7
            clear hne7
            replace hS := kx.heap hS (fun e => by have := hv _ e; omega)
            obtain ⟨_, A7, c7, rfl⟩ := ownsRow_slice ho2
            clear ho hv
            have ho := ho2
            have hv := hv2
            clear ho2 hv2
            refine hK _ _ ⟨fun _ => hS, ?_⟩
            clear hK K kx hat2 hg2
            try simp only [Act.put, List.setIfInBounds_toArray, List.set_cons_succ, List.set_cons_zero]
            refine tree_look rfl hS rfl (by intro w hS; obtain ⟨p0, p1⟩ := SCX.out w hS; go_simp; with_reducible rfl) (fun c a w h => h) ?_
            try simp only [Act.put, List.setIfInBounds_toArray, List.set_cons_succ, List.set_cons_zero]
            refine tree_act rfl rfl (fun K hK => ?_)
            have y0 := cell_of_block hP 0
            have y1 := cell_of_block hP 1
            have z0 := frozen_of_block hP 0
            have z1 := frozen_of_block hP 1
            simp at y0 y1
            have hE := heap_set (heap_set hP 0 (.slice A nf c)) 1 (.slice A7 (nm + 1) c7)
            have hHE := Lib.hid hE
            clear hE
            go_simp
            obtain ⟨x29, hx⟩ : ∃ x29, x29 = (x28.setCell ⟨pb, 0, none⟩ (.slice A nf c)).setCell ⟨pb, 1, none⟩ (.slice A7 (nm + 1) c7) := ⟨_, rfl⟩
            have kx : Chg (fun k => k = pb) x28 x29 := by rw [hx]; exact ((Chg.refl (fun k => k = pb) x28).setCell (p := ⟨pb, 0, none⟩) (fun _ => rfl) _).setCell (p := ⟨pb, 1, none⟩) (fun _ => rfl) _
            rw [← hx]
            have hb0l := lt_of_heap hSr
            have hSe := kx.heap hS (by omega)
            refine hK _ _ ⟨fun _ => hSe, ?_⟩
            clear hK K
            refine tree_end ?_
            have hbe : Below wr.heap.size wr x29 := hb.trans (kx.below (B := wr.heap.size) (fun k e => by omega) hb.size)
            have hxeP : x29.heap[pb]? = some (.cells #[.slice A nf c, .slice A7 (nm + 1) c7] 25 (0, 0)) := by rw [hx]; exact hHE.out
            have hoe := ownsRow_kept ho kx (fun k hk e => hne k hk e)
            rw [← List.flatten_append] at hoe
            obtain ⟨r0a, r0b, r0c, r1a, r1b, r1c⟩ := HR.out
            have hst : Stmts x29 (Lt x29) A7 c7 (tp.main ++ [nestT j (printT ⟨#[83]⟩)]) := stmts_own (rows := rows0 ++ rows1) hoe (by rw [List.length_append, r0a, r1a, HNM.out.2]; rfl) (fun ds hd => by
              rcases List.mem_append.1 hd with hd | hd
              · exact r0b ds hd
              · exact r1b ds hd) (by rw [List.length_append, HNM.out.2]; rfl) (fun i t ht => by
              by_cases hlt : i < tp.main.length
              · rw [List.getElem?_append_left hlt] at ht
                obtain ⟨ds, e, h⟩ := r0c i t ht
                exact ⟨ds, by rw [List.getElem?_append_left (by omega)]; exact e, (h.kept (Below.chg hbe) (fun _ _ x => x)).mono (fun k hk => Nat.lt_of_lt_of_le hk hbe.size)⟩
              · rw [List.getElem?_append_right (by omega)] at ht
                obtain ⟨ds, e, h⟩ := r1c _ t ht
                exact ⟨ds, by rw [List.getElem?_append_right (by omega), r0a]; exact e, (h.kept (Below.chg hbe) (fun _ _ x => x)).mono (fun k hk => Nat.lt_of_lt_of_le hk hbe.size)⟩) (by omega)
            have HRES := Lib.hid (And.intro hxeP (And.intro hst hbe))
            clear hx hxeP hoe hst r0a r0b r0c r1a r1b r1c
            go_wp2_with fail
            go_meet
            case rel => exact ⟨pb, A7, c7, rfl, HRES⟩
        · skip
          go_simp
          obtain ⟨x30, hx⟩ : ∃ x30, x30 = wd.alloc (.cells #[.slice none 0 0, .slice none 0 0] 25) := ⟨_, rfl⟩
          obtain ⟨pb, hpb⟩ : ∃ pb, pb = wd.heap.size := ⟨_, rfl⟩
          rw [← hx, ← hpb]
          have kx : Chg (fun _ => False) wd x30 := by rw [hx]; exact (Chg.refl _ _).alloc _
          have hP : x30.heap[pb]? = some (.cells #[.slice none 0 0, .slice none 0 0] 25 (0, 0)) := by rw [hx]; exact heap_new' hpb.symm
          have hpz : wr.heap.size ≤ pb := by rw [hpb]; exact hb.size
          replace hb := bel_trans hb kx.to_below
          replace hS := kx.heap hS (fun x => x)
          refine hK _ _ ⟨fun _ => hS, ?_⟩
          clear hK K hx hpb kx
          try simp only [Act.put, List.setIfInBounds_toArray, List.set_cons_succ, List.set_cons_zero]
          refine tree_act rfl rfl (fun K hK => ?_)
          go_simp
          obtain ⟨x31, hx⟩ : ∃ x31, x31 = x30.alloc (.cells #[] 42) := ⟨_, rfl⟩
          obtain ⟨g, hg⟩ : ∃ g, g = x30.heap.size := ⟨_, rfl⟩
          rw [← hx, ← hg]
          have kx : Chg (fun _ => False) x30 x31 := by rw [hx]; exact (Chg.refl _ _).alloc _
          have hG : x31.heap[g]? = some (.cells #[] 42 (0, 0)) := by rw [hx]; exact heap_new' hg.symm
          have hgz : wr.heap.size ≤ g := by rw [hg]; exact hb.size
          have hne : g ≠ pb := by rw [hg]; exact (Nat.ne_of_lt (lt_of_heap hP)).symm
          replace hP := kx.heap hP (fun x => x)
          replace hb := bel_trans hb kx.to_below
          replace hS := kx.heap hS (fun x => x)
          refine hK _ _ ⟨fun _ => hS, ?_⟩
          clear hK K hx hg kx
          try simp only [Act.put, List.setIfInBounds_toArray, List.set_cons_succ, List.set_cons_zero]
          refine tree_act rfl rfl (fun K hK => ?_)
          refine wp_app (.tmp 48) (.tmp 50) 23 rfl 0 42 i0 _ 6 104 Try.underlying23 hi hz0 hz1 hz2 rfl (by omega) (.slice (some ⟨g, 0, none⟩) 0 0) 0 [] rfl ⟨rfl, .inr ⟨g, 0, #[], rfl, Nat.zero_le _, hG, Nat.le_refl _, by simp [maxLen], rfl, rfl⟩⟩ B nm cb rows0.flatten rfl HL01.out.1 (SRC0.out _ hb) HL01.out.2.2.1 (by unfold maxLen; omega) (by omega) (Nat.zero_le _) (fun v1 x32 ho hg1 hat1 => ?_)
          simp only [Nat.zero_add, List.nil_append] at ho
          have kx : Chg (fun k => some g = some k) x31 x32 := Chg.of_grown hg1
          have hb0l := lt_of_heap hSr
          replace hb : Below wr.heap.size wr x32 := hb.trans (kx.below (B := wr.heap.size) (fun k e => by injection e with e; omega) hb.size)
          have hv : ∀ k, v1.ownBlock = some k → wr.heap.size ≤ k := fun k hk => by
            have := lt_of_heap hG
            rcases hat1 with e | e
            · rw [e] at hk
              have hk : some g = some k := hk
              injection hk with hk
              omega
            · rw [e] at hk; injection hk with hk; omega
          have hne5 : ∀ k, v1.ownBlock = some k → k ≠ pb := fun k hk => by
            have := lt_of_heap hP
            rcases hat1 with e | e
            · rw [e] at hk
              have hk : some g = some k := hk
              injection hk with hk
              omega
            · rw [e] at hk; injection hk with hk; omega
          replace hP := kx.heap hP (fun e => by injection e with e; exact hne e)
          clear hne
          have hne := hne5
          clear hne5
          replace hS := kx.heap hS (fun e => by injection e with e; omega)
          obtain ⟨_, A5, c5, rfl⟩ := ownsRow_slice ho
          refine hK _ _ ⟨fun _ => hS, ?_⟩
          clear hK K kx hat1 hg1 hG hgz
          try simp only [Act.put, List.setIfInBounds_toArray, List.set_cons_succ, List.set_cons_zero]
          refine tree_act rfl rfl (fun K hK => ?_)
          refine wp_app (.tmp 51) (.tmp 52) 23 rfl 0 42 i0 _ 6 104 Try.underlying23 hi hz0 hz1 hz2 rfl (by omega) (.slice A5 nm c5) nm rows0.flatten rfl ho (some ⟨PB, 0, none⟩) 1 1 rows1.flatten rfl HL01.out.2.1 (SRC1.out _ hb) HL01.out.2.2.2 (by unfold maxLen; omega) (by omega) (Nat.zero_le _) (fun v2 x33 ho2 hg2 hat2 => ?_)
          have kx : Chg (fun k => (Value.slice A5 nm c5).ownBlock = some k) x32 x33 := Chg.of_grown hg2
          have hb0l := lt_of_heap hSr
          have hbz := hb.size
          replace hb : Below wr.heap.size wr x33 := hb.trans (kx.below (B := wr.heap.size) (fun k e => hv k e) hb.size)
          have hv2 : ∀ k, v2.ownBlock = some k → wr.heap.size ≤ k := fun k hk => by
            rcases hat2 with e | e
            · rw [e] at hk; exact hv k hk
            · rw [e] at hk; injection hk with hk; omega
          have hne7 : ∀ k, v2.ownBlock = some k → k ≠ pb := fun k hk => by
            have := lt_of_heap hP
            rcases hat2 with e | e
            · rw [e] at hk; exact hne k hk
            · rw [e] at hk; injection hk with hk; omega
          replace hP := kx.heap hP (fun e => hne _ e rfl)
          clear hne
          have hne := hne7
          clear hne7
          replace hS := kx.heap hS (fun e => by have := hv _ e; omega)
          obtain ⟨_, A7, c7, rfl⟩ := ownsRow_slice ho2
          clear ho hv
          have ho := ho2
          have hv := hv2
          clear ho2 hv2
          refine hK _ _ ⟨fun _ => hS, ?_⟩
          clear hK K kx hat2 hg2
          try simp only [Act.put, List.setIfInBounds_toArray, List.set_cons_succ, List.set_cons_zero]
          refine tree_look rfl hS rfl (by intro w hS; obtain ⟨p0, p1⟩ := SCX.out w hS; go_simp; with_reducible rfl) (fun c a w h => h) ?_
          try simp only [Act.put, List.setIfInBounds_toArray, List.set_cons_succ, List.set_cons_zero]
          refine tree_act rfl rfl (fun K hK => ?_)
          have y0 := cell_of_block hP 0
          have y1 := cell_of_block hP 1
          have z0 := frozen_of_block hP 0
          have z1 := frozen_of_block hP 1
          simp at y0 y1
          have hE := heap_set (heap_set hP 0 (.slice A nf c)) 1 (.slice A7 (nm + 1) c7)
          have hHE := Lib.hid hE
          clear hE
          go_simp
          obtain ⟨x34, hx⟩ : ∃ x34, x34 = (x33.setCell ⟨pb, 0, none⟩ (.slice A nf c)).setCell ⟨pb, 1, none⟩ (.slice A7 (nm + 1) c7) := ⟨_, rfl⟩
          have kx : Chg (fun k => k = pb) x33 x34 := by rw [hx]; exact ((Chg.refl (fun k => k = pb) x33).setCell (p := ⟨pb, 0, none⟩) (fun _ => rfl) _).setCell (p := ⟨pb, 1, none⟩) (fun _ => rfl) _
          rw [← hx]
          have hb0l := lt_of_heap hSr
          have hSe := kx.heap hS (by omega)
          refine hK _ _ ⟨fun _ => hSe, ?_⟩
          clear hK K
          refine tree_end ?_
          have hbe : Below wr.heap.size wr x34 := hb.trans (kx.below (B := wr.heap.size) (fun k e => by omega) hb.size)
          have hxeP : x34.heap[pb]? = some (.cells #[.slice A nf c, .slice A7 (nm + 1) c7] 25 (0, 0)) := by rw [hx]; exact hHE.out
          have hoe := ownsRow_kept ho kx (fun k hk e => hne k hk e)
          rw [← List.flatten_append] at hoe
          obtain ⟨r0a, r0b, r0c, r1a, r1b, r1c⟩ := HR.out
          have hst : Stmts x34 (Lt x34) A7 c7 (tp.main ++ [nestT j (printT ⟨#[83]⟩)]) := stmts_own (rows := rows0 ++ rows1) hoe (by rw [List.length_append, r0a, r1a, HNM.out.2]; rfl) (fun ds hd => by
            rcases List.mem_append.1 hd with hd | hd
            · exact r0b ds hd
            · exact r1b ds hd) (by rw [List.length_append, HNM.out.2]; rfl) (fun i t ht => by
            by_cases hlt : i < tp.main.length
            · rw [List.getElem?_append_left hlt] at ht
              obtain ⟨ds, e, h⟩ := r0c i t ht
              exact ⟨ds, by rw [List.getElem?_append_left (by omega)]; exact e, (h.kept (Below.chg hbe) (fun _ _ x => x)).mono (fun k hk => Nat.lt_of_lt_of_le hk hbe.size)⟩
            · rw [List.getElem?_append_right (by omega)] at ht
              obtain ⟨ds, e, h⟩ := r1c _ t ht
              exact ⟨ds, by rw [List.getElem?_append_right (by omega), r0a]; exact e, (h.kept (Below.chg hbe) (fun _ _ x => x)).mono (fun k hk => Nat.lt_of_lt_of_le hk hbe.size)⟩) (by omega)
          have HRES := Lib.hid (And.intro hxeP (And.intro hst hbe))
          clear hx hxeP hoe hst r0a r0b r0c r1a r1b r1c
          go_wp2_with fail
          go_meet
          case rel => exact ⟨pb, A7, c7, rfl, HRES⟩
      case rest =>
        obtain ⟨pq, A1, c1, rfl, HR1⟩ := hcut
        obtain ⟨wq, hwq⟩ : ∃ wq : World, wq = wc := ⟨_, rfl⟩
        rw [← hwq] at HR1 ⊢
        clear hwq
        have hSq := (Below.chg HR1.out.2.2).heap hSr (fun x => x)
        have hbw2 : Below w.heap.size w wq := bel_trans hbw HR1.out.2.2
        have HPG2 := Lib.hid (HPG.out.up HR1.out.2.2)
        go_upto_region 13 with fail
        go_cut [12] from 55 to 63 (fun v wx => ∃ (pb : Nat) (A' : Option Addr) (c' : Nat), v = .pointer (some ⟨pb, 0, none⟩) ∧ Hid (wx.heap[pb]? = some (.cells #[.slice A nf c, .slice A' (nm + 1) c'] 25 (0, 0)) ∧ Stmts wx (Lt wx) A' c' (tp.main ++ [nestT j (printT ⟨#[115]⟩)]) ∧ Below wq.heap.size wq wx))
        case first =>
          obtain ⟨rows0, r0a, r0b, r0c, r0d⟩ := stmts_rows (HMN.out.up hbw2)
          obtain ⟨rows1, r1a, r1b, r1c, r1d⟩ := stmts_rows HPG2.out
          have SRC0 : Hid (∀ wx, Below wq.heap.size wq wx → 0 < nm → ∃ b off, B = some ⟨b, off, none⟩ ∧ ∀ (j : Nat) u, rows0.flatten[j]? = some u → wx.cell? ⟨b, off + j, none⟩ = some u) := Lib.hid (fun wx hb h0 => by
            obtain ⟨b, off, e, hc⟩ := r0d (by rw [← HNM.out.2]; exact h0)
            exact ⟨b, off, e, fun j u hu => (hb.cell (World.block_lt_of_cell? _ _ (hc j u hu))).trans (hc j u hu)⟩)
          have SRC1 : Hid (∀ wx, Below wq.heap.size wq wx → 0 < 1 → ∃ b off, some (⟨PG, 0, none⟩ : Addr) = some ⟨b, off, none⟩ ∧ ∀ (j : Nat) u, rows1.flatten[j]? = some u → wx.cell? ⟨b, off + j, none⟩ = some u) := Lib.hid (fun wx hb h0 => by
            obtain ⟨b, off, e, hc⟩ := r1d (by simp)
            exact ⟨b, off, e, fun j u hu => (hb.cell (World.block_lt_of_cell? _ _ (hc j u hu))).trans (hc j u hu)⟩)
          have L0 : rows0.flatten.length = nm * 6 := by rw [flatK_length 6 _ r0b, r0a, HNM.out.2]
          have L1 : rows1.flatten.length = 1 * 6 := by rw [flatK_length 6 _ r1b, r1a]; rfl
          have O0 : ∀ u ∈ rows0.flatten, u.oneCell' = true := fun u hu => by
            obtain ⟨ds, hd, hu⟩ := List.mem_flatten.1 hu
            obtain ⟨i, hi, rfl⟩ := List.getElem_of_mem hd
            obtain ⟨ds', e, h⟩ := r0c i tp.main[i] (List.getElem?_eq_getElem (by omega))
            rw [List.getElem?_eq_getElem hi] at e
            injection e with e
            exact isStmt_one h u (by rw [← e]; exact hu)
          have O1 : ∀ u ∈ rows1.flatten, u.oneCell' = true := fun u hu => by
            obtain ⟨ds, hd, hu⟩ := List.mem_flatten.1 hu
            obtain ⟨i, hi, rfl⟩ := List.getElem_of_mem hd
            have hi0 : i = 0 := by simp at r1a; omega
            subst hi0
            obtain ⟨ds', e, h⟩ := r1c 0 _ rfl
            rw [List.getElem?_eq_getElem hi] at e
            injection e with e
            exact isStmt_one h u (by rw [← e]; exact hu)
          have HR := Lib.hid (And.intro r0a (And.intro r0b (And.intro r0c (And.intro r1a (And.intro r1b r1c)))))
          have HL01 := Lib.hid (And.intro L0 (And.intro L1 (And.intro O0 O1)))
          clear r0a r0b r0c r0d r1a r1b r1c r1d L0 L1 O0 O1
          obtain ⟨i0, hi, hz0, hz1, hz2⟩ := info_parts infoStmt
          obtain ⟨wd, hwd⟩ : ∃ wd, wd = wq.drew := ⟨_, rfl⟩
          have hb : Below wq.heap.size wq wd := by rw [hwd]; exact (Below.refl _ _).drew
          have hS : wd.heap[b0]? = some (.cells #[.slice A nf c, .slice B nm cb] 25 (0, 0)) := (Below.chg hb).heap hSq (fun x => x)
          refine wp_region_tree (S := fun w' => w'.heap[b0]? = some (.cells #[.slice A nf c, .slice B nm cb] 25 (0, 0))) (N := fun i => true) (by kernel_rfl) (.look 0 (.look 1 (.look 3 (.look 4 (.look 6 (.fork 2 (.fork 5 (.fork 7 (.look 8 (.act 9 (.act 10 .done))) 9 (.act 7 (.look 8 (.act 10 .done)))) 9 (.act 5 (.act 7 (.look 8 (.act 10 .done))))) 9 (.act 2 (.act 5 (.act 7 (.look 8 (.act 10 .done))))))))))) (by kernel_rfl) ?_
          rw [← hwd]
          clear hwd
          iterate 5 (refine tree_look rfl hS rfl (by intro w hS; obtain ⟨p0, p1⟩ := SCX.out w hS; go_simp; with_reducible rfl) (fun c a w h => h) ?_; try simp only [Act.put, List.setIfInBounds_toArray, List.set_cons_succ, List.set_cons_zero])
          refine tree_fork rfl rfl rfl rfl (fun K hK => ?_) (fun K hK => ?_)
          · skip
            go_simp
            obtain ⟨x1, hx⟩ : ∃ x1, x1 = wd.alloc (.cells #[] 42) := ⟨_, rfl⟩
            obtain ⟨g, hg⟩ : ∃ g, g = wd.heap.size := ⟨_, rfl⟩
            rw [← hx, ← hg]
            have kx : Chg (fun _ => False) wd x1 := by rw [hx]; exact (Chg.refl _ _).alloc _
            have hG : x1.heap[g]? = some (.cells #[] 42 (0, 0)) := by rw [hx]; exact heap_new' hg.symm
            have hgz : wq.heap.size ≤ g := by rw [hg]; exact hb.size
            replace hb := bel_trans hb kx.to_below
            replace hS := kx.heap hS (fun x => x)
            refine hK _ _ ⟨fun _ => hS, ?_⟩
            clear hK K hx hg kx
            try simp only [Act.put, List.setIfInBounds_toArray, List.set_cons_succ, List.set_cons_zero]
            refine tree_fork rfl rfl rfl rfl (fun K hK => ?_) (fun K hK => ?_)
            · skip
              refine wp_app (.tmp 57) (.tmp 59) 23 rfl 0 42 i0 _ 6 104 Try.underlying23 hi hz0 hz1 hz2 rfl (by omega) (.slice (some ⟨g, 0, none⟩) 0 0) 0 [] rfl ⟨rfl, .inr ⟨g, 0, #[], rfl, Nat.zero_le _, hG, Nat.le_refl _, by simp [maxLen], rfl, rfl⟩⟩ B nm cb rows0.flatten rfl HL01.out.1 (SRC0.out _ hb) HL01.out.2.2.1 (by unfold maxLen; omega) (by omega) (Nat.zero_le _) (fun v1 x2 ho hg1 hat1 => ?_)
              simp only [Nat.zero_add, List.nil_append] at ho
              have kx : Chg (fun k => some g = some k) x1 x2 := Chg.of_grown hg1
              have hb0l := lt_of_heap hSq
              replace hb : Below wq.heap.size wq x2 := hb.trans (kx.below (B := wq.heap.size) (fun k e => by injection e with e; omega) hb.size)
              have hv : ∀ k, v1.ownBlock = some k → wq.heap.size ≤ k := fun k hk => by
                have := lt_of_heap hG
                rcases hat1 with e | e
                · rw [e] at hk
                  have hk : some g = some k := hk
                  injection hk with hk
                  omega
                · rw [e] at hk; injection hk with hk; omega
              replace hS := kx.heap hS (fun e => by injection e with e; omega)
              obtain ⟨_, A5, c5, rfl⟩ := ownsRow_slice ho
              refine hK _ _ ⟨fun _ => hS, ?_⟩
              clear hK K kx hat1 hg1 hG hgz
              try simp only [Act.put, List.setIfInBounds_toArray, List.set_cons_succ, List.set_cons_zero]
              refine tree_fork rfl rfl rfl rfl (fun K hK => ?_) (fun K hK => ?_)
              · skip
                refine wp_app (.tmp 60) (.tmp 61) 23 rfl 0 42 i0 _ 6 104 Try.underlying23 hi hz0 hz1 hz2 rfl (by omega) (.slice A5 nm c5) nm rows0.flatten rfl ho (some ⟨PG, 0, none⟩) 1 1 rows1.flatten rfl HL01.out.2.1 (SRC1.out _ hb) HL01.out.2.2.2 (by unfold maxLen; omega) (by omega) (Nat.zero_le _) (fun v2 x3 ho2 hg2 hat2 => ?_)
                have kx : Chg (fun k => (Value.slice A5 nm c5).ownBlock = some k) x2 x3 := Chg.of_grown hg2
                have hb0l := lt_of_heap hSq
                have hbz := hb.size
                replace hb : Below wq.heap.size wq x3 := hb.trans (kx.below (B := wq.heap.size) (fun k e => hv k e) hb.size)
                have hv2 : ∀ k, v2.ownBlock = some k → wq.heap.size ≤ k := fun k hk => by
                  rcases hat2 with e | e
                  · rw [e] at hk; exact hv k hk
                  · rw [e] at hk; injection hk with hk; omega
                replace hS := kx.heap hS (fun e => by have := hv _ e; omega)
                obtain ⟨_, A7, c7, rfl⟩ := ownsRow_slice ho2
                clear ho hv
                have ho := ho2
                have hv := hv2
                clear ho2 hv2
                refine hK _ _ ⟨fun _ => hS, ?_⟩
                clear hK K kx hat2 hg2
                try simp only [Act.put, List.setIfInBounds_toArray, List.set_cons_succ, List.set_cons_zero]
                refine tree_look rfl hS rfl (by intro w hS; obtain ⟨p0, p1⟩ := SCX.out w hS; go_simp; with_reducible rfl) (fun c a w h => h) ?_
                try simp only [Act.put, List.setIfInBounds_toArray, List.set_cons_succ, List.set_cons_zero]
                refine tree_act rfl rfl (fun K hK => ?_)
                go_simp
                obtain ⟨x4, hx⟩ : ∃ x4, x4 = x3.alloc (.cells #[.slice none 0 0, .slice none 0 0] 25) := ⟨_, rfl⟩
                obtain ⟨pb, hpb⟩ : ∃ pb, pb = x3.heap.size := ⟨_, rfl⟩
                rw [← hx, ← hpb]
                have kx : Chg (fun _ => False) x3 x4 := by rw [hx]; exact (Chg.refl _ _).alloc _
                have hP : x4.heap[pb]? = some (.cells #[.slice none 0 0, .slice none 0 0] 25 (0, 0)) := by rw [hx]; exact heap_new' hpb.symm
                have hpz : wq.heap.size ≤ pb := by rw [hpb]; exact hb.size
                have hne : ∀ k, (Value.slice A7 (nm + 1) c7).ownBlock = some k → k ≠ pb := fun k hk => by rw [hpb]; exact Nat.ne_of_lt (ownsRow_lt ho k hk)
                replace ho := ownsRow_kept ho kx (fun _ _ x => x)
                replace hb := bel_trans hb kx.to_below
                replace hS := kx.heap hS (fun x => x)
                refine hK _ _ ⟨fun _ => hS, ?_⟩
                clear hK K hx hpb kx
                try simp only [Act.put, List.setIfInBounds_toArray, List.set_cons_succ, List.set_cons_zero]
                refine tree_act rfl rfl (fun K hK => ?_)
                have y0 := cell_of_block hP 0
                have y1 := cell_of_block hP 1
                have z0 := frozen_of_block hP 0
                have z1 := frozen_of_block hP 1
                simp at y0 y1
                have hE := heap_set (heap_set hP 0 (.slice A nf c)) 1 (.slice A7 (nm + 1) c7)
                have hHE := Lib.hid hE
                clear hE
                go_simp
                obtain ⟨x5, hx⟩ : ∃ x5, x5 = (x4.setCell ⟨pb, 0, none⟩ (.slice A nf c)).setCell ⟨pb, 1, none⟩ (.slice A7 (nm + 1) c7) := ⟨_, rfl⟩
                have kx : Chg (fun k => k = pb) x4 x5 := by rw [hx]; exact ((Chg.refl (fun k => k = pb) x4).setCell (p := ⟨pb, 0, none⟩) (fun _ => rfl) _).setCell (p := ⟨pb, 1, none⟩) (fun _ => rfl) _
                rw [← hx]
                have hb0l := lt_of_heap hSq
                have hSe := kx.heap hS (by omega)
                refine hK _ _ ⟨fun _ => hSe, ?_⟩
                clear hK K
                refine tree_end ?_
                have hbe : Below wq.heap.size wq x5 := hb.trans (kx.below (B := wq.heap.size) (fun k e => by omega) hb.size)
                have hxeP : x5.heap[pb]? = some (.cells #[.slice A nf c, .slice A7 (nm + 1) c7] 25 (0, 0)) := by rw [hx]; exact hHE.out
                have hoe := ownsRow_kept ho kx (fun k hk e => hne k hk e)
                rw [← List.flatten_append] at hoe
                obtain ⟨r0a, r0b, r0c, r1a, r1b, r1c⟩ := HR.out
                have hst : Stmts x5 (Lt x5) A7 c7 (tp.main ++ [nestT j (printT ⟨#[115]⟩)]) := stmts_own (rows := rows0 ++ rows1) hoe (by rw [List.length_append, r0a, r1a, HNM.out.2]; rfl) (fun ds hd => by
                  rcases List.mem_append.1 hd with hd | hd
                  · exact r0b ds hd
                  · exact r1b ds hd) (by rw [List.length_append, HNM.out.2]; rfl) (fun i t ht => by
                  by_cases hlt : i < tp.main.length
                  · rw [List.getElem?_append_left hlt] at ht
                    obtain ⟨ds, e, h⟩ := r0c i t ht
                    exact ⟨ds, by rw [List.getElem?_append_left (by omega)]; exact e, (h.kept (Below.chg hbe) (fun _ _ x => x)).mono (fun k hk => Nat.lt_of_lt_of_le hk hbe.size)⟩
                  · rw [List.getElem?_append_right (by omega)] at ht
                    obtain ⟨ds, e, h⟩ := r1c _ t ht
                    exact ⟨ds, by rw [List.getElem?_append_right (by omega), r0a]; exact e, (h.kept (Below.chg hbe) (fun _ _ x => x)).mono (fun k hk => Nat.lt_of_lt_of_le hk hbe.size)⟩) (by omega)
                have HRES := Lib.hid (And.intro hxeP (And.intro hst hbe))
                clear hx hxeP hoe hst r0a r0b r0c r1a r1b r1c
                go_wp2_with fail
                go_meet
                case rel => exact ⟨pb, A7, c7, rfl, HRES⟩
              · skip
                go_simp
                obtain ⟨x6, hx⟩ : ∃ x6, x6 = x2.alloc (.cells #[.slice none 0 0, .slice none 0 0] 25) := ⟨_, rfl⟩
                obtain ⟨pb, hpb⟩ : ∃ pb, pb = x2.heap.size := ⟨_, rfl⟩
                rw [← hx, ← hpb]
                have kx : Chg (fun _ => False) x2 x6 := by rw [hx]; exact (Chg.refl _ _).alloc _
                have hP : x6.heap[pb]? = some (.cells #[.slice none 0 0, .slice none 0 0] 25 (0, 0)) := by rw [hx]; exact heap_new' hpb.symm
                have hpz : wq.heap.size ≤ pb := by rw [hpb]; exact hb.size
                have hne : ∀ k, (Value.slice A5 nm c5).ownBlock = some k → k ≠ pb := fun k hk => by rw [hpb]; exact Nat.ne_of_lt (ownsRow_lt ho k hk)
                replace ho := ownsRow_kept ho kx (fun _ _ x => x)
                replace hb := bel_trans hb kx.to_below
                replace hS := kx.heap hS (fun x => x)
                refine hK _ _ ⟨fun _ => hS, ?_⟩
                clear hK K hx hpb kx
                try simp only [Act.put, List.setIfInBounds_toArray, List.set_cons_succ, List.set_cons_zero]
                refine tree_act rfl rfl (fun K hK => ?_)
                refine wp_app (.tmp 60) (.tmp 61) 23 rfl 0 42 i0 _ 6 104 Try.underlying23 hi hz0 hz1 hz2 rfl (by omega) (.slice A5 nm c5) nm rows0.flatten rfl ho (some ⟨PG, 0, none⟩) 1 1 rows1.flatten rfl HL01.out.2.1 (SRC1.out _ hb) HL01.out.2.2.2 (by unfold maxLen; omega) (by omega) (Nat.zero_le _) (fun v2 x7 ho2 hg2 hat2 => ?_)
                have kx : Chg (fun k => (Value.slice A5 nm c5).ownBlock = some k) x6 x7 := Chg.of_grown hg2
                have hb0l := lt_of_heap hSq
                have hbz := hb.size
                replace hb : Below wq.heap.size wq x7 := hb.trans (kx.below (B := wq.heap.size) (fun k e => hv k e) hb.size)
                have hv2 : ∀ k, v2.ownBlock = some k → wq.heap.size ≤ k := fun k hk => by
                  rcases hat2 with e | e
                  · rw [e] at hk; exact hv k hk
                  · rw [e] at hk; injection hk with hk; omega
                have hne7 : ∀ k, v2.ownBlock = some k → k ≠ pb := fun k hk => by
                  have := lt_of_heap hP
                  rcases hat2 with e | e
                  · rw [e] at hk; exact hne k hk
                  · rw [e] at hk; injection hk with hk; omega
                replace hP := kx.heap hP (fun e => hne _ e rfl)
                clear hne
                have hne := hne7
                clear hne7
                replace hS := kx.heap hS (fun e => by have := hv _ e; omega)
                obtain ⟨_, A7, c7, rfl⟩ := ownsRow_slice ho2
                clear ho hv
                have ho := ho2
                have hv := hv2
                clear ho2 hv2
                refine hK _ _ ⟨fun _ => hS, ?_⟩
                clear hK K kx hat2 hg2
                try simp only [Act.put, List.setIfInBounds_toArray, List.set_cons_succ, List.set_cons_zero]
                refine tree_look rfl hS rfl (by intro w hS; obtain ⟨p0, p1⟩ := SCX.out w hS; go_simp; with_reducible rfl) (fun c a w h => h) ?_
                try simp only [Act.put, List.setIfInBounds_toArray, List.set_cons_succ, List.set_cons_zero]
                refine tree_act rfl rfl (fun K hK => ?_)
                have y0 := cell_of_block hP 0
                have y1 := cell_of_block hP 1
                have z0 := frozen_of_block hP 0
                have z1 := frozen_of_block hP 1
                simp at y0 y1
                have hE := heap_set (heap_set hP 0 (.slice A nf c)) 1 (.slice A7 (nm + 1) c7)
                have hHE := Lib.hid hE
                clear hE
                go_simp
                obtain ⟨x8, hx⟩ : ∃ x8, x8 = (x7.setCell ⟨pb, 0, none⟩ (.slice A nf c)).setCell ⟨pb, 1, none⟩ (.slice A7 (nm + 1) c7) := ⟨_, rfl⟩
                have kx : Chg (fun k => k = pb) x7 x8 := by rw [hx]; exact ((Chg.refl (fun k => k = pb) x7).setCell (p := ⟨pb, 0, none⟩) (fun _ => rfl) _).setCell (p := ⟨pb, 1, none⟩) (fun _ => rfl) _
                rw [← hx]
                have hb0l := lt_of_heap hSq
                have hSe := kx.heap hS (by omega)
                refine hK _ _ ⟨fun _ => hSe, ?_⟩
                clear hK K
                refine tree_end ?_
                have hbe : Below wq.heap.size wq x8 := hb.trans (kx.below (B := wq.heap.size) (fun k e => by omega) hb.size)
                have hxeP : x8.heap[pb]? = some (.cells #[.slice A nf c, .slice A7 (nm + 1) c7] 25 (0, 0)) := by rw [hx]; exact hHE.out
                have hoe := ownsRow_kept ho kx (fun k hk e => hne k hk e)
                rw [← List.flatten_append] at hoe
                obtain ⟨r0a, r0b, r0c, r1a, r1b, r1c⟩ := HR.out
                have hst : Stmts x8 (Lt x8) A7 c7 (tp.main ++ [nestT j (printT ⟨#[115]⟩)]) := stmts_own (rows := rows0 ++ rows1) hoe (by rw [List.length_append, r0a, r1a, HNM.out.2]; rfl) (fun ds hd => by
                  rcases List.mem_append.1 hd with hd | hd
                  · exact r0b ds hd
                  · exact r1b ds hd) (by rw [List.length_append, HNM.out.2]; rfl) (fun i t ht => by
                  by_cases hlt : i < tp.main.length
                  · rw [List.getElem?_append_left hlt] at ht
                    obtain ⟨ds, e, h⟩ := r0c i t ht
                    exact ⟨ds, by rw [List.getElem?_append_left (by omega)]; exact e, (h.kept (Below.chg hbe) (fun _ _ x => x)).mono (fun k hk => Nat.lt_of_lt_of_le hk hbe.size)⟩
                  · rw [List.getElem?_append_right (by omega)] at ht
                    obtain ⟨ds, e, h⟩ := r1c _ t ht
                    exact ⟨ds, by rw [List.getElem?_append_right (by omega), r0a]; exact e, (h.kept (Below.chg hbe) (fun _ _ x => x)).mono (fun k hk => Nat.lt_of_lt_of_le hk hbe.size)⟩) (by omega)
                have HRES := Lib.hid (And.intro hxeP (And.intro hst hbe))
                clear hx hxeP hoe hst r0a r0b r0c r1a r1b r1c
                go_wp2_with fail
                go_meet
                case rel => exact ⟨pb, A7, c7, rfl, HRES⟩
            · skip
              go_simp
              obtain ⟨x9, hx⟩ : ∃ x9, x9 = x1.alloc (.cells #[.slice none 0 0, .slice none 0 0] 25) := ⟨_, rfl⟩
              obtain ⟨pb, hpb⟩ : ∃ pb, pb = x1.heap.size := ⟨_, rfl⟩
              rw [← hx, ← hpb]
              have kx : Chg (fun _ => False) x1 x9 := by rw [hx]; exact (Chg.refl _ _).alloc _
              have hP : x9.heap[pb]? = some (.cells #[.slice none 0 0, .slice none 0 0] 25 (0, 0)) := by rw [hx]; exact heap_new' hpb.symm
              have hpz : wq.heap.size ≤ pb := by rw [hpb]; exact hb.size
              have hne : g ≠ pb := by rw [hpb]; exact Nat.ne_of_lt (lt_of_heap hG)
              replace hG := kx.heap hG (fun x => x)
              replace hb := bel_trans hb kx.to_below
              replace hS := kx.heap hS (fun x => x)
              refine hK _ _ ⟨fun _ => hS, ?_⟩
              clear hK K hx hpb kx
              try simp only [Act.put, List.setIfInBounds_toArray, List.set_cons_succ, List.set_cons_zero]
              refine tree_act rfl rfl (fun K hK => ?_)
              refine wp_app (.tmp 57) (.tmp 59) 23 rfl 0 42 i0 _ 6 104 Try.underlying23 hi hz0 hz1 hz2 rfl (by omega) (.slice (some ⟨g, 0, none⟩) 0 0) 0 [] rfl ⟨rfl, .inr ⟨g, 0, #[], rfl, Nat.zero_le _, hG, Nat.le_refl _, by simp [maxLen], rfl, rfl⟩⟩ B nm cb rows0.flatten rfl HL01.out.1 (SRC0.out _ hb) HL01.out.2.2.1 (by unfold maxLen; omega) (by omega) (Nat.zero_le _) (fun v1 x10 ho hg1 hat1 => ?_)
              simp only [Nat.zero_add, List.nil_append] at ho
              have kx : Chg (fun k => some g = some k) x9 x10 := Chg.of_grown hg1
              have hb0l := lt_of_heap hSq
              replace hb : Below wq.heap.size wq x10 := hb.trans (kx.below (B := wq.heap.size) (fun k e => by injection e with e; omega) hb.size)
              have hv : ∀ k, v1.ownBlock = some k → wq.heap.size ≤ k := fun k hk => by
                have := lt_of_heap hG
                rcases hat1 with e | e
                · rw [e] at hk
                  have hk : some g = some k := hk
                  injection hk with hk
                  omega
                · rw [e] at hk; injection hk with hk; omega
              have hne5 : ∀ k, v1.ownBlock = some k → k ≠ pb := fun k hk => by
                have := lt_of_heap hP
                rcases hat1 with e | e
                · rw [e] at hk
                  have hk : some g = some k := hk
                  injection hk with hk
                  omega
                · rw [e] at hk; injection hk with hk; omega
              replace hP := kx.heap hP (fun e => by injection e with e; exact hne e)
              clear hne
              have hne := hne5
              clear hne5
              replace hS := kx.heap hS (fun e => by injection e with e; omega)
              obtain ⟨_, A5, c5, rfl⟩ := ownsRow_slice ho
              refine hK _ _ ⟨fun _ => hS, ?_⟩
              clear hK K kx hat1 hg1 hG hgz
              try simp only [Act.put, List.setIfInBounds_toArray, List.set_cons_succ, List.set_cons_zero]
              refine tree_act rfl rfl (fun K hK => ?_)
              refine wp_app (.tmp 60) (.tmp 61) 23 rfl 0 42 i0 _ 6 104 Try.underlying23 hi hz0 hz1 hz2 rfl (by omega) (.slice A5 nm c5) nm rows0.flatten rfl ho (some ⟨PG, 0, none⟩) 1 1 rows1.flatten rfl HL01.out.2.1 (SRC1.out _ hb) HL01.out.2.2.2 (by unfold maxLen; omega) (by omega) (Nat.zero_le _) (fun v2 x11 ho2 hg2 hat2 => ?_)
              have kx : Chg (fun k => (Value.slice A5 nm c5).ownBlock = some k) x10 x11 := Chg.of_grown hg2
              have hb0l := lt_of_heap hSq
              have hbz := hb.size
              replace hb : Below wq.heap.size wq x11 := hb.trans (kx.below (B := wq.heap.size) (fun k e => hv k e) hb.size)
              have hv2 : ∀ k, v2.ownBlock = some k → wq.heap.size ≤ k := fun k hk => by
                rcases hat2 with e | e
                · rw [e] at hk; exact hv k hk
                · rw [e] at hk; injection hk with hk; omega
              have hne7 : ∀ k, v2.ownBlock = some k → k ≠ pb := fun k hk => by
                have := lt_of_heap hP
                rcases hat2 with e | e
                · rw [e] at hk; exact hne k hk
                · rw [e] at hk; injection hk with hk; omega
              replace hP := kx.heap hP (fun e => hne _ e rfl)
              clear hne
              have hne := hne7
              clear hne7
              replace hS := kx.heap hS (fun e => by have := hv _ e; omega)
              obtain ⟨_, A7, c7, rfl⟩ := ownsRow_slice ho2
              clear ho hv
              have ho := ho2
              have hv := hv2
              clear ho2 hv2
              refine hK _ _ ⟨fun _ => hS, ?_⟩
              clear hK K kx hat2 hg2
              try simp only [Act.put, List.setIfInBounds_toArray, List.set_cons_succ, List.set_cons_zero]
              refine tree_look rfl hS rfl (by intro w hS; obtain ⟨p0, p1⟩ := SCX.out w hS; go_simp; with_reducible rfl) (fun c a w h => h) ?_
              try simp only [Act.put, List.setIfInBounds_toArray, List.set_cons_succ, List.set_cons_zero]
              refine tree_act rfl rfl (fun K hK => ?_)
              have y0 := cell_of_block hP 0
              have y1 := cell_of_block hP 1
              have z0 := frozen_of_block hP 0
              have z1 := frozen_of_block hP 1
              simp at y0 y1
              have hE := heap_set (heap_set hP 0 (.slice A nf c)) 1 (.slice A7 (nm + 1) c7)
              have hHE := Lib.hid hE
              clear hE
              go_simp
              obtain ⟨x12, hx⟩ : ∃ x12, x12 = (x11.setCell ⟨pb, 0, none⟩ (.slice A nf c)).setCell ⟨pb, 1, none⟩ (.slice A7 (nm + 1) c7) := ⟨_, rfl⟩
              have kx : Chg (fun k => k = pb) x11 x12 := by rw [hx]; exact ((Chg.refl (fun k => k = pb) x11).setCell (p := ⟨pb, 0, none⟩) (fun _ => rfl) _).setCell (p := ⟨pb, 1, none⟩) (fun _ => rfl) _
              rw [← hx]
              have hb0l := lt_of_heap hSq
              have hSe := kx.heap hS (by omega)
              refine hK _ _ ⟨fun _ => hSe, ?_⟩
              clear hK K
              refine tree_end ?_
              have hbe : Below wq.heap.size wq x12 := hb.trans (kx.below (B := wq.heap.size) (fun k e => by omega) hb.size)
              have hxeP : x12.heap[pb]? = some (.cells #[.slice A nf c, .slice A7 (nm + 1) c7] 25 (0, 0)) := by rw [hx]; exact hHE.out
              have hoe := ownsRow_kept ho kx (fun k hk e => hne k hk e)
              rw [← List.flatten_append] at hoe
              obtain ⟨r0a, r0b, r0c, r1a, r1b, r1c⟩ := HR.out
              have hst : Stmts x12 (Lt x12) A7 c7 (tp.main ++ [nestT j (printT ⟨#[115]⟩)]) := stmts_own (rows := rows0 ++ rows1) hoe (by rw [List.length_append, r0a, r1a, HNM.out.2]; rfl) (fun ds hd => by
                rcases List.mem_append.1 hd with hd | hd
                · exact r0b ds hd
                · exact r1b ds hd) (by rw [List.length_append, HNM.out.2]; rfl) (fun i t ht => by
                by_cases hlt : i < tp.main.length
                · rw [List.getElem?_append_left hlt] at ht
                  obtain ⟨ds, e, h⟩ := r0c i t ht
                  exact ⟨ds, by rw [List.getElem?_append_left (by omega)]; exact e, (h.kept (Below.chg hbe) (fun _ _ x => x)).mono (fun k hk => Nat.lt_of_lt_of_le hk hbe.size)⟩
                · rw [List.getElem?_append_right (by omega)] at ht
                  obtain ⟨ds, e, h⟩ := r1c _ t ht
                  exact ⟨ds, by rw [List.getElem?_append_right (by omega), r0a]; exact e, (h.kept (Below.chg hbe) (fun _ _ x => x)).mono (fun k hk => Nat.lt_of_lt_of_le hk hbe.size)⟩) (by omega)
              have HRES := Lib.hid (And.intro hxeP (And.intro hst hbe))
              clear hx hxeP hoe hst r0a r0b r0c r1a r1b r1c
              go_wp2_with fail
              go_meet
              case rel => exact ⟨pb, A7, c7, rfl, HRES⟩
          · skip
            go_simp
            obtain ⟨x13, hx⟩ : ∃ x13, x13 = wd.alloc (.cells #[.slice none 0 0, .slice none 0 0] 25) := ⟨_, rfl⟩
            obtain ⟨pb, hpb⟩ : ∃ pb, pb = wd.heap.size := ⟨_, rfl⟩
            rw [← hx, ← hpb]
            have kx : Chg (fun _ => False) wd x13 := by rw [hx]; exact (Chg.refl _ _).alloc _
            have hP : x13.heap[pb]? = some (.cells #[.slice none 0 0, .slice none 0 0] 25 (0, 0)) := by rw [hx]; exact heap_new' hpb.symm
            have hpz : wq.heap.size ≤ pb := by rw [hpb]; exact hb.size
            replace hb := bel_trans hb kx.to_below
            replace hS := kx.heap hS (fun x => x)
            refine hK _ _ ⟨fun _ => hS, ?_⟩
            clear hK K hx hpb kx
            try simp only [Act.put, List.setIfInBounds_toArray, List.set_cons_succ, List.set_cons_zero]
            refine tree_act rfl rfl (fun K hK => ?_)
            go_simp
            obtain ⟨x14, hx⟩ : ∃ x14, x14 = x13.alloc (.cells #[] 42) := ⟨_, rfl⟩
            obtain ⟨g, hg⟩ : ∃ g, g = x13.heap.size := ⟨_, rfl⟩
            rw [← hx, ← hg]
            have kx : Chg (fun _ => False) x13 x14 := by rw [hx]; exact (Chg.refl _ _).alloc _
            have hG : x14.heap[g]? = some (.cells #[] 42 (0, 0)) := by rw [hx]; exact heap_new' hg.symm
            have hgz : wq.heap.size ≤ g := by rw [hg]; exact hb.size
            have hne : g ≠ pb := by rw [hg]; exact (Nat.ne_of_lt (lt_of_heap hP)).symm
            replace hP := kx.heap hP (fun x => x)
            replace hb := bel_trans hb kx.to_below
            replace hS := kx.heap hS (fun x => x)
            refine hK _ _ ⟨fun _ => hS, ?_⟩
            clear hK K hx hg kx
            try simp only [Act.put, List.setIfInBounds_toArray, List.set_cons_succ, List.set_cons_zero]
            refine tree_act rfl rfl (fun K hK => ?_)
            refine wp_app (.tmp 57) (.tmp 59) 23 rfl 0 42 i0 _ 6 104 Try.underlying23 hi hz0 hz1 hz2 rfl (by omega) (.slice (some ⟨g, 0, none⟩) 0 0) 0 [] rfl ⟨rfl, .inr ⟨g, 0, #[], rfl, Nat.zero_le _, hG, Nat.le_refl _, by simp [maxLen], rfl, rfl⟩⟩ B nm cb rows0.flatten rfl HL01.out.1 (SRC0.out _ hb) HL01.out.2.2.1 (by unfold maxLen; omega) (by omega) (Nat.zero_le _) (fun v1 x15 ho hg1 hat1 => ?_)
            simp only [Nat.zero_add, List.nil_append] at ho
            have kx : Chg (fun k => some g = some k) x14 x15 := Chg.of_grown hg1
            have hb0l := lt_of_heap hSq
            replace hb : Below wq.heap.size wq x15 := hb.trans (kx.below (B := wq.heap.size) (fun k e => by injection e with e; omega) hb.size)
            have hv : ∀ k, v1.ownBlock = some k → wq.heap.size ≤ k := fun k hk => by
              have := lt_of_heap hG
              rcases hat1 with e | e
              · rw [e] at hk
                have hk : some g = some k := hk
                injection hk with hk
                omega
              · rw [e] at hk; injection hk with hk; omega
            have hne5 : ∀ k, v1.ownBlock = some k → k ≠ pb := fun k hk => by
              have := lt_of_heap hP
              rcases hat1 with e | e
              · rw [e] at hk
                have hk : some g = some k := hk
                injection hk with hk
                omega
              · rw [e] at hk; injection hk with hk; omega
            replace hP := kx.heap hP (fun e => by injection e with e; exact hne e)
            clear hne
            have hne := hne5
            clear hne5
            replace hS := kx.heap hS (fun e => by injection e with e; omega)
            obtain ⟨_, A5, c5, rfl⟩ := ownsRow_slice ho
            refine hK _ _ ⟨fun _ => hS, ?_⟩
            clear hK K kx hat1 hg1 hG hgz
            try simp only [Act.put, List.setIfInBounds_toArray, List.set_cons_succ, List.set_cons_zero]
            refine tree_act rfl rfl (fun K hK => ?_)
            refine wp_app (.tmp 60) (.tmp 61) 23 rfl 0 42 i0 _ 6 104 Try.underlying23 hi hz0 hz1 hz2 rfl (by omega) (.slice A5 nm c5) nm rows0.flatten rfl ho (some ⟨PG, 0, none⟩) 1 1 rows1.flatten rfl HL01.out.2.1 (SRC1.out _ hb) HL01.out.2.2.2 (by unfold maxLen; omega) (by omega) (Nat.zero_le _) (fun v2 x16 ho2 hg2 hat2 => ?_)
            have kx : Chg (fun k => (Value.slice A5 nm c5).ownBlock = some k) x15 x16 := Chg.of_grown hg2
            have hb0l := lt_of_heap hSq
            have hbz := hb.size
            replace hb : Below wq.heap.size wq x16 := hb.trans (kx.below (B := wq.heap.size) (fun k e => hv k e) hb.size)
            have hv2 : ∀ k, v2.ownBlock = some k → wq.heap.size ≤ k := fun k hk => by
              rcases hat2 with e | e
              · rw [e] at hk; exact hv k hk
              · rw [e] at hk; injection hk with hk; omega
            have hne7 : ∀ k, v2.ownBlock = some k → k ≠ pb := fun k hk => by
              have := lt_of_heap hP
              rcases hat2 with e | e
              · rw [e] at hk; exact hne k hk
              · rw [e] at hk; injection hk with hk; omega
            replace hP := kx.heap hP (fun e => hne _ e rfl)
            clear hne
            have hne := hne7
            clear hne7
            replace hS := kx.heap hS (fun e => by have := hv _ e; omega)
            obtain ⟨_, A7, c7, rfl⟩ := ownsRow_slice ho2
            clear ho hv
            have ho := ho2
            have hv := hv2
            clear ho2 hv2
            refine hK _ _ ⟨fun _ => hS, ?_⟩
            clear hK K kx hat2 hg2
            try simp only [Act.put, List.setIfInBounds_toArray, List.set_cons_succ, List.set_cons_zero]
            refine tree_look rfl hS rfl (by intro w hS; obtain ⟨p0, p1⟩ := SCX.out w hS; go_simp; with_reducible rfl) (fun c a w h => h) ?_
            try simp only [Act.put, List.setIfInBounds_toArray, List.set_cons_succ, List.set_cons_zero]
            refine tree_act rfl rfl (fun K hK => ?_)
            have y0 := cell_of_block hP 0
            have y1 := cell_of_block hP 1
            have z0 := frozen_of_block hP 0
            have z1 := frozen_of_block hP 1
            simp at y0 y1
            have hE := heap_set (heap_set hP 0 (.slice A nf c)) 1 (.slice A7 (nm + 1) c7)
            have hHE := Lib.hid hE
            clear hE
            go_simp
            obtain ⟨x17, hx⟩ : ∃ x17, x17 = (x16.setCell ⟨pb, 0, none⟩ (.slice A nf c)).setCell ⟨pb, 1, none⟩ (.slice A7 (nm + 1) c7) := ⟨_, rfl⟩
            have kx : Chg (fun k => k = pb) x16 x17 := by rw [hx]; exact ((Chg.refl (fun k => k = pb) x16).setCell (p := ⟨pb, 0, none⟩) (fun _ => rfl) _).setCell (p := ⟨pb, 1, none⟩) (fun _ => rfl) _
            rw [← hx]
            have hb0l := lt_of_heap hSq
            have hSe := kx.heap hS (by omega)
            refine hK _ _ ⟨fun _ => hSe, ?_⟩
            clear hK K
            refine tree_end ?_
            have hbe : Below wq.heap.size wq x17 := hb.trans (kx.below (B := wq.heap.size) (fun k e => by omega) hb.size)
            have hxeP : x17.heap[pb]? = some (.cells #[.slice A nf c, .slice A7 (nm + 1) c7] 25 (0, 0)) := by rw [hx]; exact hHE.out
            have hoe := ownsRow_kept ho kx (fun k hk e => hne k hk e)
            rw [← List.flatten_append] at hoe
            obtain ⟨r0a, r0b, r0c, r1a, r1b, r1c⟩ := HR.out
            have hst : Stmts x17 (Lt x17) A7 c7 (tp.main ++ [nestT j (printT ⟨#[115]⟩)]) := stmts_own (rows := rows0 ++ rows1) hoe (by rw [List.length_append, r0a, r1a, HNM.out.2]; rfl) (fun ds hd => by
              rcases List.mem_append.1 hd with hd | hd
              · exact r0b ds hd
              · exact r1b ds hd) (by rw [List.length_append, HNM.out.2]; rfl) (fun i t ht => by
              by_cases hlt : i < tp.main.length
              · rw [List.getElem?_append_left hlt] at ht
                obtain ⟨ds, e, h⟩ := r0c i t ht
                exact ⟨ds, by rw [List.getElem?_append_left (by omega)]; exact e, (h.kept (Below.chg hbe) (fun _ _ x => x)).mono (fun k hk => Nat.lt_of_lt_of_le hk hbe.size)⟩
              · rw [List.getElem?_append_right (by omega)] at ht
                obtain ⟨ds, e, h⟩ := r1c _ t ht
                exact ⟨ds, by rw [List.getElem?_append_right (by omega), r0a]; exact e, (h.kept (Below.chg hbe) (fun _ _ x => x)).mono (fun k hk => Nat.lt_of_lt_of_le hk hbe.size)⟩) (by omega)
            have HRES := Lib.hid (And.intro hxeP (And.intro hst hbe))
            clear hx hxeP hoe hst r0a r0b r0c r1a r1b r1c
            go_wp2_with fail
            go_meet
            case rel => exact ⟨pb, A7, c7, rfl, HRES⟩
        case rest =>
          obtain ⟨pr, A2, c2, rfl, HR2⟩ := hcut
          obtain ⟨wz, hwz⟩ : ∃ wz : World, wz = wc := ⟨_, rfl⟩
          rw [← hwz] at HR2 ⊢
          clear hwz
          clear HPB HPG HPG2
          have hbz : Below w.heap.size w wz := bel_trans hbw2 HR2.out.2.2
          have hq0 := (Below.chg HR2.out.2.2).heap HR1.out.1 (fun x => x)
          have C2 : Hid (Calls Try.prog 11 #[.agg #[.slice A nf c, .slice A1 (nm + 1) c1]] wz fun e w' => e = .returned (.int .i64 5) ∧ Below wz.heap.size wz w') := Lib.hid (by
            have h := check_any (w := wz) (X := Lt wz) ⟨tp.funcs, tp.main ++ [nestT j (printT ⟨#[83]⟩)]⟩ (Funcs.mono (HF.out.kept (Below.chg hbz) (fun _ _ x => x)) (fun k hk => Nat.lt_of_lt_of_le hk hbz.size)) (HR1.out.2.1.up HR2.out.2.2) (fun _ h => h)
            rw [check_bad, List.length_append, ← HNM.out.1, ← HNM.out.2] at h
            exact h)
          have C3 : Hid (∀ wx, Below wz.heap.size wz wx → Calls Try.prog 11 #[.agg #[.slice A nf c, .slice A2 (nm + 1) c2]] wx fun e w' => e = .returned (.int .i64 cv) ∧ Below wx.heap.size wx w') := Lib.hid (fun wx hb => by
            have h := check_any (w := wx) (X := Lt wx) ⟨tp.funcs, tp.main ++ [nestT j (printT ⟨#[115]⟩)]⟩ (Funcs.mono (HF.out.kept (Below.chg (bel_trans hbz hb)) (fun _ _ x => x)) (fun k hk => Nat.lt_of_lt_of_le hk (bel_trans hbz hb).size)) (HR2.out.2.1.up hb) (fun _ h => h)
            rw [check_good, List.length_append, ← HNM.out.1, ← HNM.out.2] at h
            rw [← HCV.out]
            exact h)
          have q0 := cell_of_block hq0 0
          have q1 := cell_of_block hq0 1
          have u0 := cell_of_block HR2.out.1 0
          have u1 := cell_of_block HR2.out.1 1
          simp at q0 q1 u0 u1
          have HQ2 := Lib.hid HR2.out.1
          have HBZ : Hid (Below b0 w wz) := Lib.hid (by rw [HW.out]; exact hbz)
          have HB0 : Hid (b0 ≤ wz.heap.size) := Lib.hid (by rw [HW.out]; exact hbz.size)
          clear hq0 hbz hbw2 HR1 HR2 HB H2 hSr hSq
          go_wp2_with fail
          refine C2.out.mono ?_; rintro e w8 ⟨rfl, hb8⟩
          clear q0 q1 u0 u1
          have hq2 := (Below.chg hb8).heap HQ2.out (fun x => x)
          have u0 := cell_of_block hq2 0
          have u1 := cell_of_block hq2 1
          simp at u0 u1
          clear hq2
          have HB8 := Lib.hid hb8
          clear hb8
          go_wp2_with fail
          refine (C3.out _ HB8.out).mono ?_; rintro e w9 ⟨rfl, hb9⟩
          clear u0 u1
          have HB9 := Lib.hid hb9
          clear hb9
          go_wp2_with fail
          go_ret
          have h1 := bel_trans HB8.out HB9.out
          exact ⟨rfl, HBZ.out.trans (h1.mono HB0.out)⟩
end Go.Proofs.Ytnpmgnfohaeonaa
