/- LabelPublic: statements made small, walked. -/
import Derived.Test.YtnpmgnfohaeonaaLabPub2
namespace Go.Proofs.Ytnpmgnfohaeonaa
set_option linter.unusedVariables false
set_option linter.unusedSimpArgs false
open Go.ChangeShapes Go.WideShapes Go.ChangeAt Go.RowKit

set_option maxHeartbeats 8000000 in
set_option maxRecDepth 100000 in
theorem smallStmts_any (d : Nat) : d ≤ 1000 → ∀ (l : List StmtT) (w : World) (X : Nat → Prop) (A : Option Addr) (c : Nat), Stmts w X A c l → l.length * 104 ≤ 140737488351232 → (∀ (j : Nat) (t : StmtT), l[j]? = some t → SmS t) →
    Calls Try.prog 15 #[.slice A l.length c, .int .i64 d] w fun e w' => ∃ A' c', e = .returned (.slice A' (smallSt d l).length c') ∧ Stmts w' (fun k => w.heap.size ≤ k ∧ k < w'.heap.size) A' c' (smallSt d l) ∧ Below w.heap.size w w' := by
  induction d using Nat.strongRecOn with
  | ind d ih =>
    intro hd l w X A c hst hlb hsl
    have HE := Lib.hid hst
    have HSL := Lib.hid hsl
    obtain ⟨tf, htf⟩ : ∃ tf, smallSt d l = tf := ⟨_, rfl⟩
    rw [htf]
    rw [smallSt_eq] at htf
    have HTF := Lib.hid htf
    clear htf
    obtain ⟨m, hm⟩ : ∃ m, m = l.length := ⟨_, rfl⟩
    rw [← hm] at hlb ⊢
    have HM := Lib.hid hm
    obtain ⟨dd, hdd⟩ : ∃ dd : Int, dd = (d : Int) := ⟨_, rfl⟩
    rw [← hdd]
    obtain ⟨hd0, hd1⟩ : 0 ≤ dd ∧ dd ≤ 1000 := by omega
    have HIH : Hid (∀ (l : List StmtT) (w : World) (X : Nat → Prop) (A : Option Addr) (c : Nat), 0 < dd → Stmts w X A c l → l.length * 104 ≤ 140737488351232 → (∀ (j : Nat) (t : StmtT), l[j]? = some t → SmS t) →
        Calls Try.prog 15 #[.slice A l.length c, .int .i64 (dd - 1)] w fun e w' => ∃ A' c', e = .returned (.slice A' (smallSt (d - 1) l).length c') ∧ Stmts w' (fun k => w.heap.size ≤ k ∧ k < w'.heap.size) A' c' (smallSt (d - 1) l) ∧ Below w.heap.size w w') := Lib.hid (fun l w X A c hp h1 h2 h3 => by
      have := ih (d - 1) (by omega) (by omega) l w X A c h1 h2 h3
      rwa [show ((d - 1 : Nat) : Int) = dd - 1 by omega] at this)
    have HDD := Lib.hid hdd
    clear ih hd hst hsl hm hdd
    obtain ⟨b0, hb0⟩ : ∃ b0, b0 = w.heap.size := ⟨_, rfl⟩
    have HW := Lib.hid hb0
    have HST0 : Hid (RowI IsStmt w b0 42 6 (.slice none 0 0) [] (fun _ => False) []) := Lib.hid (RowI.start _ _ _ _ _)
    clear hb0
    go_enter Try.func15, Try.ntmps15
    go_wp2_with fail
    go_loopg [5, 6] m (fun k vo vi wr => ∃ j : Nat, j ≤ m ∧ k = m - j ∧ vi = .int .i64 j ∧ (dd = 0 → j = 0) ∧ ∃ rows Y, Hid (RowI IsStmt wr b0 42 6 vo rows Y ((l.take j).map (smallS d))) ∧ Hid (Below w.heap.size w wr))
    case atStart => exact ⟨0, by omega, rfl, rfl, fun _ => rfl, _, _, HST0, Lib.hid (Below.refl _ _)⟩
    case round =>
      clear HST0
      obtain ⟨j, hj, hk2, rfl, hj0, rows, Y, HO, HBR⟩ := hrel
      obtain ⟨wo, hwo⟩ : ∃ wo : World, wo = wr := ⟨_, rfl⟩
      rw [← hwo] at HO HBR ⊢
      clear hwo
      have HK := Lib.hid hk2
      clear hk2
      have hon : ((l.take j).map (smallS d)).length = j := by rw [List.length_map, List.length_take]; have := HM.out; omega
      have hrow0 := HO.out.row
      rw [hon] at hrow0
      obtain ⟨_, OV, oc, rfl⟩ := ownsRow_slice hrow0
      have HON := Lib.hid hon
      clear hon hrow0
      by_cases hlt : j < m
      · by_cases hdp : 0 < dd
        · have hjl : j < l.length := by rw [← HM.out]; exact hlt
          obtain ⟨eb, eo, op, nm, n, AL, lm, cl, B3, bl, c3b, B5, el, c5b, rfl, hist, hcc⟩ := HE.out.get j hjl
          have hsms := HSL.out j l[j] (List.getElem?_eq_getElem hjl)
          have htk := List.take_succ_eq_append_getElem hjl
          obtain ⟨x, hx⟩ : ∃ x, l[j] = x := ⟨_, rfl⟩
          rw [hx] at hist hsms htk
          clear hx
          obtain ⟨L, body, els, rfl, hlm, hbl, hel, hLX, hBX, hEX⟩ : ∃ L body els, x = .mk op nm n L body els ∧ lm = L.length ∧ bl = body.length ∧ el = els.length ∧ Exprs w X AL cl L ∧ Stmts w X B3 c3b body ∧ Stmts w X B5 c5b els := by
            cases hist with
            | mk op name n l body els A B E c cb ce f fb fe hs hr h hrb hb hre he => exact ⟨l, body, els, rfl, rfl, rfl, rfl, ⟨f, hr, h⟩, ⟨fb, hrb, hb⟩, ⟨fe, hre, he⟩⟩
          obtain ⟨hn0, hl0, hls0, hb1, hbs1, he1, hes1⟩ : nm.size ≤ 140737488351232 ∧ L.length * 56 ≤ 140737488351232 ∧ (∀ (j : Nat) (t : ExprT), L[j]? = some t → SmN t) ∧ body.length * 104 ≤ 140737488351232 ∧ (∀ (j : Nat) (t : StmtT), body[j]? = some t → SmS t) ∧ els.length * 104 ≤ 140737488351232 ∧ (∀ (j : Nat) (t : StmtT), els[j]? = some t → SmS t) := by
            cases hsms with
            | mk _ _ _ _ _ _ a b c d e f g => exact ⟨a, b, c, d, e, f, g⟩
          have HNM := Lib.hid hn0
          have HLM := Lib.hid hlm
          have HBL := Lib.hid hbl
          have HEL := Lib.hid hel
          have HLX := Lib.hid hLX
          have HLS := Lib.hid hls0
          have HBODY := Lib.hid (And.intro hBX (And.intro hb1 hbs1))
          have HELS := Lib.hid (And.intro hEX (And.intro he1 hes1))
          have HTJ := Lib.hid htk
          rw [← hlm] at hl0
          have SCX : Hid (∀ w', Below w.heap.size w w' → w'.cell? ⟨eb, eo + j * 6, none⟩ = some (.int .i64 op) ∧ w'.cell? ⟨eb, eo + j * 6 + 2, none⟩ = some (.int .i64 n) ∧ w'.cell? ⟨eb, eo + j * 6 + 1, none⟩ = some (.string nm)) := Lib.hid (fun wx hb => by
            obtain ⟨g0, g1, g2, g3, g4, g5⟩ := hcc wx hb
            exact ⟨g0, g2, g1⟩)
          have SCL : Hid (∀ w', Below w.heap.size w w' → w'.cell? ⟨eb, eo + j * 6 + 3, none⟩ = some (.slice AL lm cl) ∧ w'.cell? ⟨eb, eo + j * 6 + 4, none⟩ = some (.slice B3 bl c3b) ∧ w'.cell? ⟨eb, eo + j * 6 + 5, none⟩ = some (.slice B5 el c5b)) := Lib.hid (fun wx hb => by
            obtain ⟨g0, g1, g2, g3, g4, g5⟩ := hcc wx hb
            exact ⟨g3, g4, g5⟩)
          clear hist hsms htk hlm hbl hel hLX hBX hEX hn0 hls0 hb1 hbs1 he1 hes1 hcc hjl
          obtain ⟨bs, hbs⟩ : ∃ bs, bs = wo.heap.size := ⟨_, rfl⟩
          have HBS := Lib.hid hbs
          clear hbs
          go_upto_region 5 with fail
          go_cut [7] from 20 to 36 (fun v wx => v = .pointer (some ⟨bs, 0, none⟩) ∧ Hid (wx.heap[bs]? = some (.cells #[.int .i64 op, .string (smallN nm), .int .i64 n, .slice none 0 0, .slice none 0 0, .slice none 0 0] 42 (0, 0)) ∧ Below wo.heap.size wo wx))
          case first =>
            obtain ⟨wd, hwd⟩ : ∃ wd, wd = wo.drew := ⟨_, rfl⟩
            have hb : Below wo.heap.size wo wd := by rw [hwd]; exact (Below.refl _ _).drew
            have hpb : wd.heap.size = bs := by rw [hwd, HBS.out]; rfl
            have hS := SCX.out wd (bel_trans HBR.out hb)
            refine wp_region_tree (S := fun w' => w'.cell? ⟨eb, eo + j * 6, none⟩ = some (.int .i64 op) ∧ w'.cell? ⟨eb, eo + j * 6 + 2, none⟩ = some (.int .i64 n) ∧ w'.cell? ⟨eb, eo + j * 6 + 1, none⟩ = some (.string nm)) (N := fun i => i != 18) (by kernel_rfl) (.look 0 (.look 1 (.look 2 (.look 3 (.look 4 (.look 5 (.look 6 (.look 7 (.look 8 (.look 9 (.look 10 (.look 11 (.look 12 (.look 13 (.look 14 (.fork 15 (.look 16 (.act 17 (.act 18 .done))) 17 (.act 15 (.look 16 (.act 18 .done))))))))))))))))))) (by kernel_rfl) ?_
            rw [← hwd]
            clear hwd
            iterate 15 (refine tree_look rfl hS rfl (by intro w hS; obtain ⟨p0, p1, p2⟩ := hS; go_simp; with_reducible rfl) (fun c a w h => h) ?_; try simp only [Act.put, List.setIfInBounds_toArray, List.set_cons_succ, List.set_cons_zero])
            refine tree_fork rfl rfl rfl rfl (fun K hK => ?_) (fun K hK => ?_)
            · skip
              refine wp_call 16 _ _ Try.func16 rfl (by kernel_rfl) _ _ rfl #[.string nm] (by simp [Act.eval]) (R := fun v w1 => v = .string (smallN nm) ∧ w1 = wd) (calls_ret (small_any nm HNM.out _) (by rintro e w1 ⟨rfl, h⟩; exact ⟨_, rfl, rfl, h⟩)) ?_
              rintro v w1 ⟨rfl, hw1⟩
              rw [hw1]
              clear hw1
              refine hK _ _ ⟨fun _ => hS, ?_⟩
              clear hK K
              try simp only [Act.put, List.setIfInBounds_toArray, List.set_cons_succ, List.set_cons_zero]
              refine tree_look rfl hS rfl (by intro w hS; obtain ⟨p0, p1, p2⟩ := hS; go_simp; with_reducible rfl) (fun c a w h => h) ?_
              try simp only [Act.put, List.setIfInBounds_toArray, List.set_cons_succ, List.set_cons_zero]
              refine tree_act rfl rfl (fun K hK => ?_)
              go_simp
              obtain ⟨x1, hx⟩ : ∃ x1, x1 = wd.alloc (.cells #[.int .i64 0, .string ⟨#[]⟩, .int .i64 0, .slice none 0 0, .slice none 0 0, .slice none 0 0] 42) := ⟨_, rfl⟩
              rw [← hx]
              try rw [hpb]
              have kx : Chg (fun _ => False) wd x1 := by rw [hx]; exact (Chg.refl _ _).alloc _
              have hP : x1.heap[bs]? = some (.cells #[.int .i64 0, .string ⟨#[]⟩, .int .i64 0, .slice none 0 0, .slice none 0 0, .slice none 0 0] 42 (0, 0)) := by rw [hx]; exact heap_new' hpb
              replace hb := bel_trans hb kx.to_below
              replace hS := SCX.out _ (bel_trans HBR.out hb)
              refine hK _ _ ⟨fun _ => hS, ?_⟩
              clear hK K hx hpb kx
              try simp only [Act.put, List.setIfInBounds_toArray, List.set_cons_succ, List.set_cons_zero]
              refine tree_act rfl rfl (fun K hK => ?_)
              have y0 := cell_of_block hP 0
              have z0 := frozen_of_block hP 0
              have y1 := cell_of_block hP 1
              have z1 := frozen_of_block hP 1
              have y2 := cell_of_block hP 2
              have z2 := frozen_of_block hP 2
              have y3 := cell_of_block hP 3
              have z3 := frozen_of_block hP 3
              have y4 := cell_of_block hP 4
              have z4 := frozen_of_block hP 4
              have y5 := cell_of_block hP 5
              have z5 := frozen_of_block hP 5
              simp at y0 y1 y2 y3 y4 y5
              have hE := heap_set (heap_set (heap_set (heap_set (heap_set (heap_set hP 0 (.int .i64 op)) 1 (.string (smallN nm))) 2 (.int .i64 n)) 3 (.slice none 0 0)) 4 (.slice none 0 0)) 5 (.slice none 0 0)
              have hHE := Lib.hid hE
              clear hE
              go_simp
              obtain ⟨x2, hx⟩ : ∃ x2, x2 = ((((((x1.setCell ⟨bs, 0, none⟩ (.int .i64 op)).setCell ⟨bs, 1, none⟩ (.string (smallN nm))).setCell ⟨bs, 2, none⟩ (.int .i64 n)).setCell ⟨bs, 3, none⟩ (.slice none 0 0)).setCell ⟨bs, 4, none⟩ (.slice none 0 0)).setCell ⟨bs, 5, none⟩ (.slice none 0 0)) := ⟨_, rfl⟩
              have kx : Chg (fun k => k = bs) x1 x2 := by rw [hx]; exact (((((((Chg.refl (fun k => k = bs) x1).setCell (p := ⟨bs, 0, none⟩) (fun _ => rfl) _).setCell (p := ⟨bs, 1, none⟩) (fun _ => rfl) _).setCell (p := ⟨bs, 2, none⟩) (fun _ => rfl) _).setCell (p := ⟨bs, 3, none⟩) (fun _ => rfl) _).setCell (p := ⟨bs, 4, none⟩) (fun _ => rfl) _).setCell (p := ⟨bs, 5, none⟩) (fun _ => rfl) _)
              rw [← hx]
              refine hK _ _ ⟨fun h => absurd h (by decide), ?_⟩
              clear hK K
              refine tree_end ?_
              have hbe : Below wo.heap.size wo x2 := hb.trans (kx.below (B := wo.heap.size) (fun k e => by have := HBS.out; omega) hb.size)
              have hxP : x2.heap[bs]? = some (.cells #[.int .i64 op, .string (smallN nm), .int .i64 n, .slice none 0 0, .slice none 0 0, .slice none 0 0] 42 (0, 0)) := by rw [hx]; exact hHE.out
              have HRES := Lib.hid (And.intro hxP hbe)
              clear hx hxP
              go_wp2_with fail
              go_meet
              case rel => exact ⟨rfl, HRES⟩
            · skip
              go_simp
              obtain ⟨x1, hx⟩ : ∃ x1, x1 = wd.alloc (.cells #[.int .i64 0, .string ⟨#[]⟩, .int .i64 0, .slice none 0 0, .slice none 0 0, .slice none 0 0] 42) := ⟨_, rfl⟩
              rw [← hx]
              try rw [hpb]
              have kx : Chg (fun _ => False) wd x1 := by rw [hx]; exact (Chg.refl _ _).alloc _
              have hP : x1.heap[bs]? = some (.cells #[.int .i64 0, .string ⟨#[]⟩, .int .i64 0, .slice none 0 0, .slice none 0 0, .slice none 0 0] 42 (0, 0)) := by rw [hx]; exact heap_new' hpb
              replace hb := bel_trans hb kx.to_below
              replace hS := SCX.out _ (bel_trans HBR.out hb)
              refine hK _ _ ⟨fun _ => hS, ?_⟩
              clear hK K hx hpb kx
              try simp only [Act.put, List.setIfInBounds_toArray, List.set_cons_succ, List.set_cons_zero]
              refine tree_act rfl rfl (fun K hK => ?_)
              refine wp_call 16 _ _ Try.func16 rfl (by kernel_rfl) _ _ rfl #[.string nm] (by simp [Act.eval]) (R := fun v w1 => v = .string (smallN nm) ∧ w1 = x1) (calls_ret (small_any nm HNM.out _) (by rintro e w1 ⟨rfl, h⟩; exact ⟨_, rfl, rfl, h⟩)) ?_
              rintro v w1 ⟨rfl, hw1⟩
              rw [hw1]
              clear hw1
              refine hK _ _ ⟨fun _ => hS, ?_⟩
              clear hK K
              try simp only [Act.put, List.setIfInBounds_toArray, List.set_cons_succ, List.set_cons_zero]
              refine tree_look rfl hS rfl (by intro w hS; obtain ⟨p0, p1, p2⟩ := hS; go_simp; with_reducible rfl) (fun c a w h => h) ?_
              try simp only [Act.put, List.setIfInBounds_toArray, List.set_cons_succ, List.set_cons_zero]
              refine tree_act rfl rfl (fun K hK => ?_)
              have y0 := cell_of_block hP 0
              have z0 := frozen_of_block hP 0
              have y1 := cell_of_block hP 1
              have z1 := frozen_of_block hP 1
              have y2 := cell_of_block hP 2
              have z2 := frozen_of_block hP 2
              have y3 := cell_of_block hP 3
              have z3 := frozen_of_block hP 3
              have y4 := cell_of_block hP 4
              have z4 := frozen_of_block hP 4
              have y5 := cell_of_block hP 5
              have z5 := frozen_of_block hP 5
              simp at y0 y1 y2 y3 y4 y5
              have hE := heap_set (heap_set (heap_set (heap_set (heap_set (heap_set hP 0 (.int .i64 op)) 1 (.string (smallN nm))) 2 (.int .i64 n)) 3 (.slice none 0 0)) 4 (.slice none 0 0)) 5 (.slice none 0 0)
              have hHE := Lib.hid hE
              clear hE
              go_simp
              obtain ⟨x2, hx⟩ : ∃ x2, x2 = ((((((x1.setCell ⟨bs, 0, none⟩ (.int .i64 op)).setCell ⟨bs, 1, none⟩ (.string (smallN nm))).setCell ⟨bs, 2, none⟩ (.int .i64 n)).setCell ⟨bs, 3, none⟩ (.slice none 0 0)).setCell ⟨bs, 4, none⟩ (.slice none 0 0)).setCell ⟨bs, 5, none⟩ (.slice none 0 0)) := ⟨_, rfl⟩
              have kx : Chg (fun k => k = bs) x1 x2 := by rw [hx]; exact (((((((Chg.refl (fun k => k = bs) x1).setCell (p := ⟨bs, 0, none⟩) (fun _ => rfl) _).setCell (p := ⟨bs, 1, none⟩) (fun _ => rfl) _).setCell (p := ⟨bs, 2, none⟩) (fun _ => rfl) _).setCell (p := ⟨bs, 3, none⟩) (fun _ => rfl) _).setCell (p := ⟨bs, 4, none⟩) (fun _ => rfl) _).setCell (p := ⟨bs, 5, none⟩) (fun _ => rfl) _)
              rw [← hx]
              refine hK _ _ ⟨fun h => absurd h (by decide), ?_⟩
              clear hK K
              refine tree_end ?_
              have hbe : Below wo.heap.size wo x2 := hb.trans (kx.below (B := wo.heap.size) (fun k e => by have := HBS.out; omega) hb.size)
              have hxP : x2.heap[bs]? = some (.cells #[.int .i64 op, .string (smallN nm), .int .i64 n, .slice none 0 0, .slice none 0 0, .slice none 0 0] 42 (0, 0)) := by rw [hx]; exact hHE.out
              have HRES := Lib.hid (And.intro hxP hbe)
              clear hx hxP
              go_wp2_with fail
              go_meet
              case rel => exact ⟨rfl, HRES⟩
          case rest =>
            obtain ⟨rfl, HB1⟩ := hcut
            obtain ⟨wi, hwi⟩ : ∃ wi : World, wi = wc := ⟨_, rfl⟩
            rw [← hwi] at HB1 ⊢
            clear hwi
            obtain ⟨b1, hb1⟩ : ∃ b1, b1 = wi.heap.size := ⟨_, rfl⟩
            have hbs1 : bs < b1 := by rw [hb1]; exact lt_of_heap HB1.out.1
            have HB1S := Lib.hid hb1
            have HRI : Hid (RowI IsExpr wi b1 28 4 (.slice none 0 0) [] (fun _ => False) []) := Lib.hid (RowI.start _ _ _ _ _)
            have c3 := (SCL.out wi (bel_trans HBR.out HB1.out.2)).1
            have HBOX := Lib.hid HB1.out.1
            clear hb1
            go_wp2_with fail
            go_loopg [8] lm (fun k vk wk => ∃ kk : Nat, kk ≤ lm ∧ k = lm - kk ∧ vk = .int .i64 kk ∧ ∃ V rows2 Y2, Hid (wk.heap[bs]? = some (.cells #[.int .i64 op, .string (smallN nm), .int .i64 n, V, .slice none 0 0, .slice none 0 0] 42 (0, 0))) ∧ Hid (RowI IsExpr wk b1 28 4 V rows2 Y2 ((L.take kk).map (smallE d))) ∧ Hid (Chg (fun k => k = bs ∨ b1 ≤ k) wi wk))
            case atStart => exact ⟨0, by omega, rfl, rfl, _, _, _, HBOX, HRI, Lib.hid (Chg.refl _ _)⟩
            case round =>
              clear HRI HBOX c3
              obtain ⟨kk, hkk, hk3, rfl, V, rows2, Y2, HBX, HP, HC⟩ := hrel
              obtain ⟨wk, hwk⟩ : ∃ wk : World, wk = wr := ⟨_, rfl⟩
              rw [← hwk] at HBX HP HC ⊢
              clear hwk
              have HKI := Lib.hid hk3
              clear hk3
              have HBK : Hid (Below w.heap.size w wk) := Lib.hid ((bel_trans HBR.out HB1.out.2).trans (HC.out.below (B := w.heap.size) (fun k hk => by have := HW.out; have := HBS.out; have := HBR.out.size; rcases hk with e | e <;> omega) (bel_trans HBR.out HB1.out.2).size))
              have hjn : ((L.take kk).map (smallE d)).length = kk := by rw [List.length_map, List.length_take]; have := HLM.out; omega
              have hrow0 := HP.out.row
              rw [hjn] at hrow0
              obtain ⟨_, AV, cV, rfl⟩ := ownsRow_slice hrow0
              have HJN := Lib.hid hjn
              have hsk : b1 ≤ wk.heap.size := by rw [HB1S.out]; exact HC.out.size
              clear hjn hrow0
              obtain ⟨c3, c4, c5⟩ := SCL.out wk HBK.out
              by_cases hltk : kk < lm
              · have hkl : kk < L.length := by rw [← HLM.out]; exact hltk
                obtain ⟨fb, fo, op2, n2, nm2, B2, lc2, cc2, rfl, hie, hcc⟩ := HLX.out.get kk hkl
                obtain ⟨e0, e1, e2, e3⟩ := hcc wk HBK.out
                have hsme := HLS.out kk L[kk] (List.getElem?_eq_getElem hkl)
                have htk := List.take_succ_eq_append_getElem hkl
                obtain ⟨x, hx⟩ : ∃ x, L[kk] = x := ⟨_, rfl⟩
                rw [hx] at hie hsme htk
                have CP : Hid (Calls Try.prog 27 #[.agg #[.int .i64 op2, .int .i64 n2, .string nm2, .slice B2 lc2 cc2], .int .i64 dd] wk fun e w' => ∃ (a b : Int) (s : ByteArray) (A : Option Addr) (k c : Nat), e = .returned (.agg #[.int .i64 a, .int .i64 b, .string s, .slice A k c]) ∧ IsExpr w' (fun k => wk.heap.size ≤ k ∧ k < w'.heap.size) (smallE d x) [.int .i64 a, .int .i64 b, .string s, .slice A k c] ∧ Below wk.heap.size wk w') := Lib.hid (by
                  have h := smallExpr_any d (by have := HDD.out; omega) x wk X _ (hie.kept (Below.chg HBK.out) (fun _ _ x => x)) hsme
                  rw [← HDD.out] at h
                  exact h)
                have HTK := Lib.hid htk
                clear hx hie hcc hsme htk hkl
                go_wp2_with fail
                refine CP.out.mono ?_; rintro e w1 ⟨a, b, s, A3, k3, c3p, rfl, hie1, hb1⟩
                obtain ⟨wy, hwy⟩ : ∃ wy, wy = w1.alloc (.cells #[.int .i64 a, .int .i64 b, .string s, .slice A3 k3 c3p] 28) := ⟨_, rfl⟩
                obtain ⟨i0, hi, hz0, hz1, hz2⟩ := info_parts infoExpr
                have hby : Below w1.heap.size w1 wy := by rw [hwy]; exact (Below.refl _ _).alloc (Nat.le_refl _) _
                have hxy : wy.heap[w1.heap.size]? = some (.cells #[.int .i64 a, .int .i64 b, .string s, .slice A3 k3 c3p] 28 (0, 0)) := by rw [hwy]; exact heap_new _ _
                have hbx : Below w1.heap.size w1 (wy.alloc (.cells #[.int .i64 a, .int .i64 b, .string s, .slice A3 k3 c3p] 28)) := hby.alloc hby.size _
                have hk1x := bel_trans hb1 hbx
                have hPx := HP.out.keep stab_expr hk1x
                have hBy := (Below.chg (bel_trans hb1 hby)).heap HBX.out (fun x => x)
                have hBx := (Below.chg hk1x).heap HBX.out (fun x => x)
                have v3 := cell_of_block hBy 3
                have x0 := cell_of_block hxy 0
                have x1 := cell_of_block hxy 1
                have x2 := cell_of_block hxy 2
                have x3 := cell_of_block hxy 3
                simp at v3 x0 x1 x2 x3
                have hrowx := hPx.row
                rw [HJN.out] at hrowx
                have hVO : ¬ (Value.slice AV kk cV).ownBlock = some bs := fun e => by have := (hrowx.lt _ e).1; omega
                have hnews : ∀ (j : Nat) u, ([.int .i64 a, .int .i64 b, .string s, .slice A3 k3 c3p] : List Value)[j]? = some u → (wy.alloc (.cells #[.int .i64 a, .int .i64 b, .string s, .slice A3 k3 c3p] 28)).cell? ((⟨wy.heap.size, 0, none⟩ : Addr).add j) = some u := World.news_of_block (cs := #[.int .i64 a, .int .i64 b, .string s, .slice A3 k3 c3p]) (t := 28) (fr := (0, 0)) (heap_new _ _)
                have hbsz : b1 ≤ (wy.alloc (.cells #[.int .i64 a, .int .i64 b, .string s, .slice A3 k3 c3p] 28)).heap.size := Nat.le_trans hsk hk1x.size
                have hel : IsExpr (wy.alloc (.cells #[.int .i64 a, .int .i64 b, .string s, .slice A3 k3 c3p] 28)) (fun k => wk.heap.size ≤ k ∧ k < w1.heap.size) (smallE d x) [.int .i64 a, .int .i64 b, .string s, .slice A3 k3 c3p] := hie1.keep hbx
                have HEL := Lib.hid (And.intro hel (And.intro hPx (And.intro hBx hk1x)))
                have HB1' := Lib.hid (And.intro hb1.size hbx.size)
                have HROW := Lib.hid hrowx
                have HVO := Lib.hid hVO
                have HNEWS := Lib.hid hnews
                have HBSZ := Lib.hid hbsz
                have HKSZ := Lib.hid hk1x
                clear hie1 hb1 hby hxy hbx hPx hBy hBx hrowx hVO hnews hbsz hk1x hel e0 e1 e2 e3 c3 c4 c5
                go_upto_region 10 with fail
                rw [← hwy]
                clear hwy
                go_wp2_with (at_builtin; refine wpList_append_own_at _ rfl _ _ _ rfl b1 28 i0 _ 4 56 Try.underlying26 hi hz0 hz1 hz2 rfl (by omega) (.slice AV kk cV) kk rows2.flatten rfl HROW.out ⟨wy.heap.size, 0, none⟩ 1 1 [.int .i64 a, .int .i64 b, .string s, .slice A3 k3 c3p] rfl rfl HNEWS.out (by simp [Value.oneCell']) (by unfold maxLen; omega) (by omega) HBSZ.out ?_; intro v1 w2 ho1 hg1 hnn hat1; have hb2 := (Chg.of_grown hg1).heap HEL.out.2.2.1 HVO.out; have k1 := cell_of_block hb2 3; have kf1 := frozen_of_block hb2 3; simp at k1; obtain ⟨_, D1, d9, rfl⟩ := ownsRow_slice ho1)
                obtain ⟨w5, hw5⟩ : ∃ w5, w5 = w2.setCell ⟨bs, 3, none⟩ (.slice D1 (kk + 1) d9) := ⟨_, rfl⟩
                rw [← hw5]
                have hset : Chg (fun k => k = bs) w2 w5 := by rw [hw5]; exact Chg.set_cell ⟨bs, 3, none⟩ _
                have hbox5 : w5.heap[bs]? = some (.cells #[.int .i64 op, .string (smallN nm), .int .i64 n, .slice D1 (kk + 1) d9, .slice none 0 0, .slice none 0 0] 42 (0, 0)) := by rw [hw5]; exact heap_set hb2 3 _
                have hstep := (HEL.out.2.1.step stab_expr (V' := .slice D1 (kk + 1) d9) HEL.out.1 rfl (fun k hk => ⟨by omega, Nat.lt_of_lt_of_le hk.2 HB1'.out.2, fun e => by have := (HP.out.own k e).2; omega⟩) (by rw [HJN.out]; exact ho1) hg1 hat1)
                have hstep5 := hstep.kept stab_expr hset (fun k hk e => by have := (hstep.own k hk).1; omega) (fun k hk e => by have := (hstep.foot k hk).1; omega)
                rw [show (L.take kk).map (smallE d) ++ [smallE d x] = (L.take (kk + 1)).map (smallE d) by rw [HTK.out, List.map_append]; rfl] at hstep5
                have hch5 : Chg (fun k => k = bs ∨ b1 ≤ k) wk w5 := (Below.chg HKSZ.out).trans ((Chg.of_grown hg1).trans hset (T := fun k => k = bs ∨ b1 ≤ k) (fun i _ e => .inr (HROW.out.lt i e).1) (fun i _ e => .inl e)) (fun _ _ x => x.elim) (fun _ _ x => x)
                have HB5 := Lib.hid hbox5
                have HS5 := Lib.hid hstep5
                have HC5 : Hid (Chg (fun k => k = bs ∨ b1 ≤ k) wi w5) := Lib.hid (HC.out.then hch5)
                clear hset hbox5 hstep hstep5 hch5 hw5
                go_roundg (lm - (kk + 1))
                case measure => have := HKI.out; omega
                case rel => exact ⟨kk + 1, by omega, rfl, by go_num, _, _, _, HB5, HS5, HC5⟩
              · obtain rfl : kk = lm := by omega
                have htk : L.take kk = L := List.take_of_length_le (by rw [← HLM.out]; exact Nat.le_refl _)
                have hpp := HP.out
                rw [htk] at hpp
                have HPL := Lib.hid hpp
                clear hpp htk
                have CB : Hid (Calls Try.prog 15 #[.slice B3 bl c3b, .int .i64 (dd - 1)] wk fun e w' => ∃ A' c', e = .returned (.slice A' (smallSt (d - 1) body).length c') ∧ Stmts w' (fun k => wk.heap.size ≤ k ∧ k < w'.heap.size) A' c' (smallSt (d - 1) body) ∧ Below wk.heap.size wk w') := Lib.hid (by
                  have h := HIH.out body wk X B3 c3b hdp (HBODY.out.1.kept (Below.chg HBK.out) (fun _ _ x => x)) HBODY.out.2.1 HBODY.out.2.2
                  rw [← HBL.out] at h
                  exact h)
                have s4 := cell_of_block HBX.out 4
                have f4 := frozen_of_block HBX.out 4
                simp at s4
                go_wp2_with fail
                refine CB.out.mono ?_; rintro e w3 ⟨A4, c4p, rfl, hst4, hb4⟩
                clear c3 c4 c5 s4 f4
                have hB3 := (Below.chg hb4).heap HBX.out (fun x => x)
                have s4 := cell_of_block hB3 4
                have f4 := frozen_of_block hB3 4
                simp at s4
                obtain ⟨w4, hw4⟩ : ∃ w4, w4 = w3.setCell ⟨bs, 4, none⟩ (.slice A4 (smallSt (d - 1) body).length c4p) := ⟨_, rfl⟩
                have hset4 : Chg (fun k => k = bs) w3 w4 := by rw [hw4]; exact Chg.set_cell ⟨bs, 4, none⟩ _
                have hB4 : w4.heap[bs]? = some (.cells #[.int .i64 op, .string (smallN nm), .int .i64 n, .slice AV kk cV, .slice A4 (smallSt (d - 1) body).length c4p, .slice none 0 0] 42 (0, 0)) := by rw [hw4]; exact heap_set hB3 4 _
                have hL4 := ((HPL.out.keep stab_expr hb4).kept stab_expr hset4 (fun k hk e => by have := (HPL.out.own k hk).1; omega) (fun k hk e => by have := (HPL.out.foot k hk).1; omega))
                have hst44 := hst4.kept hset4 (fun k hk e => by omega)
                have hch4 : Chg (fun k => k = bs ∨ b1 ≤ k) wk w4 := (Below.chg hb4).trans hset4 (fun _ _ x => x.elim) (fun _ _ x => .inl x)
                have HC4 : Hid (Chg (fun k => k = bs ∨ b1 ≤ k) wi w4) := Lib.hid (HC.out.then hch4)
                have HK4 : Hid (Below w.heap.size w w4) := Lib.hid ((bel_trans HBR.out HB1.out.2).trans (HC4.out.below (B := w.heap.size) (fun k hk => by have := HW.out; have := HBS.out; have := HBR.out.size; rcases hk with e | e <;> omega) (bel_trans HBR.out HB1.out.2).size))
                have HS4 := Lib.hid (And.intro hB4 (And.intro hL4 (And.intro hst44 (And.intro hset4.size hch4.size))))
                have HW4 := Lib.hid hw4
                have HB4 := Lib.hid hb4
                clear hB3 hset4 hB4 hL4 hst44 hch4 hst4 hw4 hb4
                obtain ⟨c3, c4, c5⟩ := SCL.out w4 HK4.out
                have CE : Hid (Calls Try.prog 15 #[.slice B5 el c5b, .int .i64 (dd - 1)] w4 fun e w' => ∃ A' c', e = .returned (.slice A' (smallSt (d - 1) els).length c') ∧ Stmts w' (fun k => w4.heap.size ≤ k ∧ k < w'.heap.size) A' c' (smallSt (d - 1) els) ∧ Below w4.heap.size w4 w') := Lib.hid (by
                  have h := HIH.out els w4 X B5 c5b hdp (HELS.out.1.kept (Below.chg HK4.out) (fun _ _ x => x)) HELS.out.2.1 HELS.out.2.2
                  rw [← HEL.out] at h
                  exact h)
                go_upto_region 12 with fail
                rw [← HW4.out]
                clear s4 f4
                have s5 := cell_of_block HS4.out.1 5
                have f5 := frozen_of_block HS4.out.1 5
                simp at s5
                go_wp2_with fail
                refine CE.out.mono ?_; rintro e w5 ⟨A5, c5p, rfl, hst5, hb5⟩
                clear c3 c4 c5 s5 f5
                have hB5 := (Below.chg hb5).heap HS4.out.1 (fun x => x)
                have s5 := cell_of_block hB5 5
                have f5 := frozen_of_block hB5 5
                simp at s5
                obtain ⟨w6, hw6⟩ : ∃ w6, w6 = w5.setCell ⟨bs, 5, none⟩ (.slice A5 (smallSt (d - 1) els).length c5p) := ⟨_, rfl⟩
                have hset6 : Chg (fun k => k = bs) w5 w6 := by rw [hw6]; exact Chg.set_cell ⟨bs, 5, none⟩ _
                have hB6 : w6.heap[bs]? = some (.cells #[.int .i64 op, .string (smallN nm), .int .i64 n, .slice AV kk cV, .slice A4 (smallSt (d - 1) body).length c4p, .slice A5 (smallSt (d - 1) els).length c5p] 42 (0, 0)) := by rw [hw6]; exact heap_set hB5 5 _
                have hL6 := ((HS4.out.2.1.keep stab_expr hb5).kept stab_expr hset6 (fun k hk e => by have := (HPL.out.own k hk).1; omega) (fun k hk e => by have := (HPL.out.foot k hk).1; omega))
                have hbd6 := (HS4.out.2.2.1.kept (Below.chg hb5) (fun _ _ x => x)).kept hset6 (fun k hk e => by omega)
                have hel6 := hst5.kept hset6 (fun k hk e => by have := HS4.out.2.2.2.2; omega)
                have hch6 : Chg (fun k => k = bs ∨ b1 ≤ k) w4 w6 := (Below.chg hb5).trans hset6 (fun _ _ x => x.elim) (fun _ _ x => .inl x)
                have HC6 : Hid (Chg (fun k => k = bs ∨ b1 ≤ k) wi w6) := Lib.hid (HC4.out.then hch6)
                have hRW6 : Below wo.heap.size wo w6 := HB1.out.2.trans (HC6.out.below (B := wo.heap.size) (fun k hk => by have := HBS.out; rcases hk with e | e <;> omega) HB1.out.2.size)
                have hls : (L.map (smallE d)).length ≤ 8796093022208 := by rw [List.length_map, ← HLM.out]; omega
                have hstm : IsStmt w6 (fun k => wo.heap.size ≤ k ∧ k < w6.heap.size) (.mk op (smallN nm) n (L.map (smallE d)) (smallSt (d - 1) body) (smallSt (d - 1) els)) [.int .i64 op, .string (smallN nm), .int .i64 n, .slice AV kk cV, .slice A4 (smallSt (d - 1) body).length c4p, .slice A5 (smallSt (d - 1) els).length c5p] := by
                  obtain ⟨Ad, cd, fd, hd, hr, hx⟩ := hL6.done stab_expr hls
                  have hd : Value.slice AV kk cV = .slice Ad (L.map (smallE d)).length cd := hd
                  injection hd with hd1 hd2 hd3
                  subst hd1 hd3
                  have hmono : ∀ k, (_ ∨ (Value.slice AV kk cV).ownBlock = some k) → wo.heap.size ≤ k ∧ k < w6.heap.size := fun k hk => by
                    have := HBS.out
                    rcases hk with hk | hk
                    · have := hL6.foot k hk; omega
                    · have := hL6.own k hk; omega
                  refine isStmt_of (by rw [smallN_size]; have := HNM.out; omega) ⟨fd, hr.mono hmono, fun j x hj => (hx j x hj).mono hmono⟩ (hbd6.mono (fun k hk => ?_)) (hel6.mono (fun k hk => ?_)) hd2 rfl rfl
                  · have := HS4.out.2.2.2; have := hb5.size; have := hset6.size; have := HBS.out; omega
                  · have := HS4.out.2.2.2; have := hset6.size; have := HBS.out; omega
                obtain ⟨i0, hi, hz0, hz1, hz2⟩ := info_parts infoStmt
                obtain ⟨wx, hwx⟩ : ∃ wx, wx = w6.alloc (.cells #[.int .i64 op, .string (smallN nm), .int .i64 n, .slice AV kk cV, .slice A4 (smallSt (d - 1) body).length c4p, .slice A5 (smallSt (d - 1) els).length c5p] 42) := ⟨_, rfl⟩
                have hbx : Below w6.heap.size w6 wx := by rw [hwx]; exact (Below.refl _ _).alloc (Nat.le_refl _) _
                have hOx := HO.out.keep stab_stmt (bel_trans hRW6 hbx)
                have hrowx := hOx.row
                rw [HON.out] at hrowx
                have hnews : ∀ (j : Nat) u, ([.int .i64 op, .string (smallN nm), .int .i64 n, .slice AV kk cV, .slice A4 (smallSt (d - 1) body).length c4p, .slice A5 (smallSt (d - 1) els).length c5p] : List Value)[j]? = some u → wx.cell? ((⟨w6.heap.size, 0, none⟩ : Addr).add j) = some u := by rw [hwx]; exact World.news_of_block (cs := #[.int .i64 op, .string (smallN nm), .int .i64 n, .slice AV kk cV, .slice A4 (smallSt (d - 1) body).length c4p, .slice A5 (smallSt (d - 1) els).length c5p]) (t := 42) (fr := (0, 0)) (heap_new _ _)
                have HFX := Lib.hid (And.intro (hstm.keep hbx) (And.intro hOx (And.intro (bel_trans hRW6 hbx) hbx.size)))
                have HROWX := Lib.hid hrowx
                have HNEWX := Lib.hid hnews
                have HBSX : Hid (b0 ≤ wx.heap.size) := Lib.hid (by have := (bel_trans hRW6 hbx).size; have := HBR.out.size; have := HW.out; omega)
                have HW6 := Lib.hid hw6
                have HWX := Lib.hid hwx
                have t0 := cell_of_block hB6 0
                have t1 := cell_of_block hB6 1
                have t2 := cell_of_block hB6 2
                have t3 := cell_of_block hB6 3
                have t4 := cell_of_block hB6 4
                have t5 := cell_of_block hB6 5
                simp at t0 t1 t2 t3 t4 t5
                clear hB5 hset6 hB6 hL6 hbd6 hel6 hch6 hst5 hb5 hls hbx hOx hrowx hnews hstm hw6 hwx hRW6
                go_upto_region 13 with fail
                rw [← HW6.out]
                clear s5 f5
                go_wp2_with (at_builtin; rw [← HWX.out]; refine wpList_append_own_at _ rfl _ _ _ rfl b0 42 i0 _ 6 104 Try.underlying23 hi hz0 hz1 hz2 rfl (by omega) (.slice OV j oc) j rows.flatten rfl HROWX.out ⟨w6.heap.size, 0, none⟩ 1 1 [.int .i64 op, .string (smallN nm), .int .i64 n, .slice AV kk cV, .slice A4 (smallSt (d - 1) body).length c4p, .slice A5 (smallSt (d - 1) els).length c5p] rfl rfl HNEWX.out (by simp [Value.oneCell']) (by unfold maxLen; omega) (by omega) HBSX.out ?_; intro v1 w7 ho1 hg1 hnn hat1)
                have hstep := HFX.out.2.1.step stab_stmt (V' := v1) HFX.out.1 rfl (fun k hk => ⟨by have := HW.out; have := HBR.out.size; omega, Nat.lt_of_lt_of_le hk.2 HFX.out.2.2.2, fun e => by have := (HO.out.own k e).2; omega⟩) (by rw [HON.out]; exact ho1) hg1 hat1
                rw [show (l.take j).map (smallS d) ++ [StmtT.mk op (smallN nm) n (L.map (smallE d)) (smallSt (d - 1) body) (smallSt (d - 1) els)] = (l.take (j + 1)).map (smallS d) by rw [HTJ.out, List.map_append]; rfl] at hstep
                have HST := Lib.hid hstep
                have HBN : Hid (Below w.heap.size w w7) := Lib.hid ((bel_trans HBR.out HFX.out.2.2.1).trans ((Chg.of_grown hg1).below (B := w.heap.size) (fun k e => by have := (HROWX.out.lt k e).1; have := HW.out; omega) (bel_trans HBR.out HFX.out.2.2.1).size))
                clear hstep ho1 hg1 hat1 t0 t1 t2 t3 t4 t5
                go_wp2_with fail
                go_roundg (m - (j + 1))
                case measure => have := HK.out; omega
                case rel => exact ⟨j + 1, by omega, rfl, by go_num, fun e => by omega, _, _, HST, HBN⟩
        · obtain rfl : dd = 0 := by omega
          obtain rfl : j = 0 := hj0 rfl
          have htf : (l.take 0).map (smallS d) = tf := by rw [← HTF.out, if_pos (by have := HDD.out; omega)]; rfl
          have hdone := HO.out.done stab_stmt (by rw [HON.out]; omega)
          rw [htf] at hdone
          obtain ⟨A', c', f', hv, hr, hx⟩ := hdone
          rw [hv]
          clear hv
          go_wp2_with fail
          go_ret
          have hmono : ∀ k, (_ ∨ (Value.slice OV 0 oc).ownBlock = some k) → w.heap.size ≤ k ∧ k < wo.heap.size := fun k hk => by
            have := HW.out
            rcases hk with hk | hk
            · have := HO.out.foot k hk; omega
            · have := HO.out.own k hk; omega
          exact ⟨_, _, rfl, ⟨f', hr.mono hmono, fun j x hj => (hx j x hj).mono hmono⟩, HBR.out⟩
      · obtain rfl : j = m := by omega
        have htf : (l.take j).map (smallS d) = tf := by
          rw [← HTF.out]
          by_cases hz : d = 0
          · have h0 : j = 0 := hj0 (by rw [HDD.out, hz]; rfl)
            rw [if_pos hz, h0]; rfl
          · rw [if_neg hz, List.take_of_length_le (by have := HM.out; omega)]
        have hdone := HO.out.done stab_stmt (by rw [HON.out]; omega)
        rw [htf] at hdone
        obtain ⟨A', c', f', hv, hr, hx⟩ := hdone
        rw [hv]
        clear hv
        go_wp2_with fail
        go_ret
        have hmono : ∀ k, (_ ∨ (Value.slice OV j oc).ownBlock = some k) → w.heap.size ≤ k ∧ k < wo.heap.size := fun k hk => by
          have := HW.out
          rcases hk with hk | hk
          · have := HO.out.foot k hk; omega
          · have := HO.out.own k hk; omega
        exact ⟨_, _, rfl, ⟨f', hr.mono hmono, fun j x hj => (hx j x hj).mono hmono⟩, HBR.out⟩
end Go.Proofs.Ytnpmgnfohaeonaa
