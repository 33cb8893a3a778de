/- CacheOne: the walk of the law. -/
import Derived.Test.YthmjmggeihonnaaCacheB
import Derived.Deep.LoopGhost
namespace Go.Proofs.Ythmjmggeihonnaa
set_option linter.unusedVariables false
set_option linter.unusedSimpArgs false
open Go.RowKit Go.Deep

def ORel (w0 : World) (c len : Nat) (zs : List Int) (k : Nat) (i : Value) (wr : World) : Prop :=
  ∃ (j : Nat), j ≤ len ∧ j ≤ 100 ∧ k = 100 - j ∧ i = .int .i64 j ∧ ∃ L, Hid (L = if j = 0 then [] else [(zs.getD (j - 1) 0, oneR ((j - 1 : Nat) : Int))]) ∧ CB w0 wr (fun _ => False) c 1 j L

set_option maxHeartbeats 8000000 in
set_option maxRecDepth 100000 in
theorem cacheOne_walk (a : Option Addr) (len cap : Nat) (zs : List Int) (w : World) (hcp : len ≤ cap ∧ cap ≤ maxLen) (hr : IntRow .i64 w a len zs) (hl : len * 8 ≤ 140737488351232) :
    Calls Try.prog 8 #[.slice a len cap] w fun e w' => e = .returned (.bool true) ∧ Below w.heap.size w w' := by
  suffices hs : ∀ w0, w0 = w → Calls Try.prog 8 #[.slice a len cap] w fun e w' => e = .returned (.bool true) ∧ Below w0.heap.size w0 w' from hs w rfl
  intro w0 hw0
  have HR := Lib.hid hr
  have HW := Lib.hid hw0
  have hlen : len ≤ 9223372036854775807 := by omega
  have hlc := hcp.1
  have HCM := Lib.hid hcp.2
  clear hr hw0 hl hcp
  go_enter Try.func8, Try.ntmps8
  go_wp2_with fail
  refine (shown_any _).mono ?_; rintro e w1 ⟨rfl, hb1⟩
  have HB1 : Hid (Below w0.heap.size w0 w1) := by rw [HW.out]; exact hb1
  clear hb1
  go_wp2_with fail
  refine (CB.new HB1.out 1 1 (by decide)).mono ?_; rintro e w2 ⟨c, rfl, h2⟩
  go_wp2_with fail
  go_loopg [5] 100 (fun k i wr => ORel w0 c len zs k i wr)
  case atStart => exact ⟨0, by omega, by omega, rfl, rfl, [], Lib.hid rfl, h2⟩
  case round =>
    clear h2
    obtain ⟨j, hj1, hj2, hk, rfl, L, HLL, h2⟩ := hrel
    have HK := Lib.hid hk
    clear hk
    by_cases hlt : j < len
    · by_cases h100 : j < 100
      · have h100' : (j : Int) < 100 := by omega
        obtain ⟨b, off, rfl, hc⟩ := HR.out.at_ (by omega)
        have hbl : b < w0.heap.size := by
          have := World.block_lt_of_cell? w _ (hc j hlt)
          rw [HW.out]; exact this
        have hwx : (Lit.int .i64 (zs.getD j 0)).wf = true := HR.out.wfD j hlt
        have HBW := Lib.hid h2.bel
        have hcell0 : ∀ wx, Below w0.heap.size w0 wx → ∀ t, t < len → wx.cell? ⟨b, off + t, none⟩ = some (.int .i64 (zs.getD t 0)) := fun wx hx t ht => by
          have := hc t ht
          rw [← HW.out] at this
          exact (hx.cell (p := ⟨b, off + t, none⟩) hbl).trans this
        rcases Nat.eq_zero_or_pos j with hj0 | hj0
        · subst hj0
          have hL := HLL.out
          rw [if_pos rfl] at hL
          have ew : IntKind.i64.wrap 1 = 1 := by decide
          have hcap1 : (1 : Int) ≤ cap := by omega
          obtain ⟨x, hx⟩ : ∃ x, zs.getD 0 0 = x := ⟨_, rfl⟩
          have hcell : ∀ wx, Below w0.heap.size w0 wx → wx.cell? ⟨b, off, none⟩ = some (.int .i64 x) ∧ True := fun wx hw => ⟨by rw [← hx]; exact hcell0 wx hw 0 hlt, trivial⟩
          rw [hx] at hwx
          have HX := Lib.hid hx
          have HPV : Hid (putv 1 L x (oneR 0) = (0, false, [(x, oneR 0)])) := Lib.hid (by rw [hL]; rfl)
          clear hc hcell0 hx hL
          go_wp2_with fail
          have hS0 := hcell wr.drew HBW.out.drew
          refine wp_region_ord (S := fun w' => w'.cell? ⟨b, off, none⟩ = some (.int .i64 x) ∧ True) (N := fun i => true) (by kernel_rfl) [(0, true), (1, true), (2, true), (3, true), (4, true), (5, true), (6, false), (7, false), (8, true), (9, true), (10, true), (11, true), (12, true)] (by kernel_rfl) ?_
          iterate 6 (refine ord_look rfl hS0 rfl (by intro w hS; obtain ⟨hS1, hS2⟩ := hS; go_simp; with_reducible rfl) (fun c a w h => h) ?_; simp only [Act.put, List.setIfInBounds_toArray, List.set_cons_succ, List.set_cons_zero])
          refine ord_act rfl rfl (fun K hK => ?_)
          refine wp_call 21 _ _ Try.func21 rfl (by kernel_rfl) _ _ rfl #[.int .i64 0] (by simp [Act.eval]) (R := fun v w1 => ∃ g cp, v = .slice (some ⟨g, 0, none⟩) 2 cp ∧ Tmp w0 w1 (Old (fun _ => False) wr.drew w1) (.slice (some ⟨g, 0, none⟩) 2 cp) (oneR 0).length (insCells (oneR 0)) ∧ CB w0 w1 (Old (fun _ => False) wr.drew w1) c 1 0 L) (calls_ret ((h2.drewN 1).one 0) (by rintro e w1 ⟨g, cp, rfl, h⟩; exact ⟨_, rfl, g, cp, rfl, h.1, h.2.1⟩)) ?_
          rintro v w1 ⟨g, cp, rfl, t1, h3⟩
          have hS1 := hcell w1 h3.bel
          refine hK _ _ ⟨fun _ => hS1, ?_⟩
          clear hK K
          simp only [Act.put, List.setIfInBounds_toArray, List.set_cons_succ, List.set_cons_zero]
          refine ord_act rfl rfl (fun K hK => ?_)
          refine wp_call 13 _ _ Try.func13 rfl (by kernel_rfl) _ _ rfl #[.pointer (some ⟨c, 0, none⟩), .int .i64 x, .slice (some ⟨g, 0, none⟩) 2 cp] (by simp [Act.eval]) (R := fun v w2 => v = .tuple #[.int .i64 0, .bool false] ∧ CB w0 w2 (Old (fun _ => False) wr.drew w1) c 1 (0 + 1) [(x, oneR 0)]) (calls_ret (h3.put x hwx _ (oneR 0) t1 (by simp [oneR]) (by omega) 0 false _ HPV.out) (by rintro e w1 ⟨rfl, h⟩; exact ⟨_, rfl, rfl, h.1⟩)) ?_
          rintro v w2 ⟨rfl, h4⟩
          replace h4 := h4.free
          have hS2 := hcell w2 h4.bel
          refine hK _ _ ⟨fun _ => hS2, ?_⟩
          clear hK K t1 h3 h2
          simp only [Act.put, List.setIfInBounds_toArray, List.set_cons_succ, List.set_cons_zero]
          iterate 5 (refine ord_look rfl hS2 rfl (by intro w hS; obtain ⟨hS1, hS2⟩ := hS; go_simp; with_reducible rfl) (fun c a w h => h) ?_; simp only [Act.put, List.setIfInBounds_toArray, List.set_cons_succ, List.set_cons_zero])
          refine ord_end ?_
          clear hS0 hS1
          obtain ⟨q1, q2⟩ := hS2
          go_wp2_with fail
          go_region
          skip
          have HB2 := Lib.hid h4.bel
          have h5 := h4.drewN 2
          have hS3 : w2.drew.drew.cell? ⟨b, off, none⟩ = some (.int .i64 x) ∧ True := hcell _ h5.bel
          clear q1 q2
          go_wp2_with fail
          refine wp_region_ord (S := fun w' => w'.cell? ⟨b, off, none⟩ = some (.int .i64 x) ∧ True) (N := fun i => true) (by kernel_rfl) [(0, true), (1, true), (2, true), (3, true), (4, true), (5, true), (6, true), (7, true), (8, true), (9, true), (10, true), (11, true), (12, true), (13, true), (14, true), (15, true), (16, true), (18, true), (19, true), (20, true), (21, true), (22, true), (17, false), (23, false), (24, true), (25, true)] (by kernel_rfl) ?_
          iterate 6 (refine ord_look rfl hS3 rfl (by intro w hS; obtain ⟨hS1, hS2⟩ := hS; go_simp; with_reducible rfl) (fun c a w h => h) ?_; simp only [Act.put, List.setIfInBounds_toArray, List.set_cons_succ, List.set_cons_zero])
          iterate 7 (refine ord_skip rfl hS3 rfl (fun c a w h => h) ?_; simp only [Act.put, List.setIfInBounds_toArray, List.set_cons_succ, List.set_cons_zero])
          iterate 4 (refine ord_look rfl hS3 rfl (by intro w hS; obtain ⟨hS1, hS2⟩ := hS; go_simp; with_reducible rfl) (fun c a w h => h) ?_; simp only [Act.put, List.setIfInBounds_toArray, List.set_cons_succ, List.set_cons_zero])
          iterate 5 (refine ord_look rfl hS3 rfl (by intro w hS; obtain ⟨hS1, hS2⟩ := hS; go_simp; with_reducible rfl) (fun c a w h => h) ?_; simp only [Act.put, List.setIfInBounds_toArray, List.set_cons_succ, List.set_cons_zero])
          refine ord_act rfl rfl (fun K hK => ?_)
          refine wp_call 18 _ _ Try.func18 rfl (by kernel_rfl) _ _ rfl #[.pointer (some ⟨c, 0, none⟩)] (by simp [Act.eval]) (R := fun v w3 => ∃ A cp, v = .slice A 1 cp ∧ Tmp w0 w3 (Old (fun _ => False) w2.drew.drew w3) (.slice A 1 cp) 1 (ints [x]) ∧ CB w0 w3 (Old (fun _ => False) w2.drew.drew w3) c 1 (0 + 1) [(x, oneR 0)]) (calls_ret (h5.held [x] rfl) (by rintro e w1 ⟨A, cp, rfl, h⟩; exact ⟨_, rfl, A, cp, rfl, h.2.1, h.2.2.1⟩)) ?_
          rintro v w3 ⟨A3, cp3, rfl, t3, h6⟩
          have hS4 := hcell w3 h6.bel
          refine hK _ _ ⟨fun _ => hS4, ?_⟩
          clear hK K hS3 h5 h4
          simp only [Act.put, List.setIfInBounds_toArray, List.set_cons_succ, List.set_cons_zero]
          refine ord_act rfl rfl (fun K hK => ?_)
          have hsrc : Src w3 (.slice (some ⟨b, off, none⟩) 1 (cap)) 1 ([x].map (Value.int .i64)) := .inr ⟨b, off, _, rfl, Nat.lt_of_lt_of_le hbl h6.bel.size, by omega, by have := HCM.out; unfold maxLen at this ⊢; omega, fun t u hu => by
            have ht : t = 0 := by have := (List.getElem?_eq_some_iff.1 hu).1; simpa using this
            subst ht
            simp at hu
            subst hu
            exact hS4.1⟩
          have hsm := same_any (xs := [x]) (ys := [x]) t3.src hsrc
          rw [decide_eq_true rfl] at hsm
          refine wp_call 23 _ _ Try.func23 rfl (by kernel_rfl) _ _ rfl #[.slice A3 1 cp3, .slice (some ⟨b, off, none⟩) 1 (cap)] (by simp [Act.eval]) (R := fun v w4 => v = .bool true ∧ ∃ m, w4 = w3.drewN m) (calls_ret hsm (by rintro e w1 ⟨rfl, h⟩; exact ⟨_, rfl, rfl, h⟩)) ?_
          rintro v w4 ⟨rfl, m, rfl⟩
          replace h6 := (h6.drewN m).free
          have hS5 := hcell _ h6.bel
          refine hK _ _ ⟨fun _ => hS5, ?_⟩
          clear hK K hS4 hsrc hsm t3
          simp only [Act.put, List.setIfInBounds_toArray, List.set_cons_succ, List.set_cons_zero]
          iterate 2 (refine ord_look rfl hS5 rfl (by intro w hS; obtain ⟨hS1, hS2⟩ := hS; go_simp; with_reducible rfl) (fun c a w h => h) ?_; simp only [Act.put, List.setIfInBounds_toArray, List.set_cons_succ, List.set_cons_zero])
          refine ord_end ?_
          generalize w3.drewN m = w5 at *
          obtain ⟨q1, q2⟩ := hS5
          go_wp2_with fail
          refine (h6.get x hwx true (oneR 0) ⟨by simp [getl], by simp [getl]⟩).mono ?_; rintro e w6 ⟨A6, cp6, rfl, _, t6, h7, _⟩
          clear q1 q2 h6
          go_wp2_with fail
          refine (h7.one 0).mono ?_; rintro e w7 ⟨g7, cp7, rfl, t7, h8, hc7⟩
          replace t6 := t6.keptO hc7
          clear h7
          go_wp2_with fail
          refine (h8.alike t6 t7 rfl rfl true (by simp)).mono ?_; rintro e w8 ⟨rfl, m8, rfl⟩
          replace h8 := (h8.drewN m8).free
          clear t6 t7 hc7
          generalize w7.drewN m8 = w9 at *
          go_wp2_with fail
          go_roundg (100 - (0 + 1))
          case measure => have := HK.out; omega
          case rel => exact ⟨0 + 1, by omega, by omega, rfl, by go_num, [(x, oneR 0)], Lib.hid (by rw [if_neg (by omega), Nat.add_sub_cancel, HX.out] <;> rfl), h8⟩
        · obtain ⟨p, hp⟩ : ∃ p, j = p + 1 := ⟨j - 1, by omega⟩
          subst hp
          have hL := HLL.out
          rw [if_neg (by omega), Nat.add_sub_cancel] at hL
          obtain ⟨x, hx⟩ : ∃ x, zs.getD (p + 1) 0 = x := ⟨_, rfl⟩
          obtain ⟨y, hy⟩ : ∃ y, zs.getD p 0 = y := ⟨_, rfl⟩
          rw [hx] at hwx
          rw [hy] at hL
          have e1 : (((p + 1 : Nat) : Int) - 1) = p := by omega
          have hpos : (0 : Int) < ((p + 1 : Nat) : Int) := by omega
          have hq1 : (0 : Int) ≤ (p : Int) + 1 := by omega
          have hq2 : (p : Int) + 1 < len := by omega
          have hq3 : (0 : Int) ≤ (p : Int) := by omega
          have hq4 : (p : Int) < len := by omega
          have hq5 : (p : Int) + 1 ≤ (p : Int) + 1 + 1 := by omega
          have hq6 : (p : Int) + 1 + 1 ≤ cap := by omega
          have hq7 : (0 : Int) ≤ (p : Int) + 1 + 1 := by omega
          have hq8 : (p : Int) + 1 ≤ max ((p : Int) + 1 + 1) 0 := by omega
          have hq9 : ((p : Int) + 1 + 1).toNat - (p + 1) = 1 := by omega
          have hqa : ¬ cap = p + 1 := by omega
          have ew : IntKind.i64.wrap ((p : Int) + 1 + 1) = (p : Int) + 1 + 1 := by rw [IntKind.wrap_i64]; omega
          have ew2 : IntKind.i64.wrap ((p : Int) + 1 - 1) = p := by rw [IntKind.wrap_i64]; omega
          have ew3 : IntKind.i64.wrap (p : Int) = p := by rw [IntKind.wrap_i64]; omega
          have hcell : ∀ wx, Below w0.heap.size w0 wx → wx.cell? ⟨b, off + (p + 1), none⟩ = some (.int .i64 x) ∧ wx.cell? ⟨b, off + p, none⟩ = some (.int .i64 y) := fun wx hw => ⟨by rw [← hx]; exact hcell0 wx hw (p + 1) hlt, by rw [← hy]; exact hcell0 wx hw p (by omega)⟩
          have HX := Lib.hid hx
          clear hx hy hc hcell0
          by_cases hxy : x = y
          · subst hxy
            have HPV : Hid (putv 1 L x (oneR ((p + 1 : Nat) : Int)) = (0, false, [(x, oneR ((p + 1 : Nat) : Int))])) := Lib.hid (by rw [hL]; simp [putv, getl])
            clear hL
            go_wp2_with fail
            have hS0 := hcell wr.drew HBW.out.drew
            refine wp_region_ord (S := fun w' => w'.cell? ⟨b, off + (p + 1), none⟩ = some (.int .i64 x) ∧ w'.cell? ⟨b, off + p, none⟩ = some (.int .i64 x)) (N := fun i => true) (by kernel_rfl) [(0, true), (1, true), (2, true), (3, true), (4, true), (5, true), (6, false), (7, false), (8, true), (9, true), (10, true), (11, true), (12, true)] (by kernel_rfl) ?_
            iterate 6 (refine ord_look rfl hS0 rfl (by intro w hS; obtain ⟨hS1, hS2⟩ := hS; go_simp; with_reducible rfl) (fun c a w h => h) ?_; simp only [Act.put, List.setIfInBounds_toArray, List.set_cons_succ, List.set_cons_zero])
            refine ord_act rfl rfl (fun K hK => ?_)
            refine wp_call 21 _ _ Try.func21 rfl (by kernel_rfl) _ _ rfl #[.int .i64 ((p + 1 : Nat) : Int)] (by simp [Act.eval]) (R := fun v w1 => ∃ g cp, v = .slice (some ⟨g, 0, none⟩) 2 cp ∧ Tmp w0 w1 (Old (fun _ => False) wr.drew w1) (.slice (some ⟨g, 0, none⟩) 2 cp) (oneR ((p + 1 : Nat) : Int)).length (insCells (oneR ((p + 1 : Nat) : Int))) ∧ CB w0 w1 (Old (fun _ => False) wr.drew w1) c 1 (p + 1) L) (calls_ret ((h2.drewN 1).one ((p + 1 : Nat) : Int)) (by rintro e w1 ⟨g, cp, rfl, h⟩; exact ⟨_, rfl, g, cp, rfl, h.1, h.2.1⟩)) ?_
            rintro v w1 ⟨g, cp, rfl, t1, h3⟩
            have hS1 := hcell w1 h3.bel
            refine hK _ _ ⟨fun _ => hS1, ?_⟩
            clear hK K
            simp only [Act.put, List.setIfInBounds_toArray, List.set_cons_succ, List.set_cons_zero]
            refine ord_act rfl rfl (fun K hK => ?_)
            refine wp_call 13 _ _ Try.func13 rfl (by kernel_rfl) _ _ rfl #[.pointer (some ⟨c, 0, none⟩), .int .i64 x, .slice (some ⟨g, 0, none⟩) 2 cp] (by simp [Act.eval]) (R := fun v w2 => v = .tuple #[.int .i64 0, .bool false] ∧ CB w0 w2 (Old (fun _ => False) wr.drew w1) c 1 ((p + 1) + 1) [(x, oneR ((p + 1 : Nat) : Int))]) (calls_ret (h3.put x hwx _ (oneR ((p + 1 : Nat) : Int)) t1 (by simp [oneR]) (by omega) 0 false _ HPV.out) (by rintro e w1 ⟨rfl, h⟩; exact ⟨_, rfl, rfl, h.1⟩)) ?_
            rintro v w2 ⟨rfl, h4⟩
            replace h4 := h4.free
            have hS2 := hcell w2 h4.bel
            refine hK _ _ ⟨fun _ => hS2, ?_⟩
            clear hK K t1 h3 h2
            simp only [Act.put, List.setIfInBounds_toArray, List.set_cons_succ, List.set_cons_zero]
            iterate 5 (refine ord_look rfl hS2 rfl (by intro w hS; obtain ⟨hS1, hS2⟩ := hS; go_simp; with_reducible rfl) (fun c a w h => h) ?_; simp only [Act.put, List.setIfInBounds_toArray, List.set_cons_succ, List.set_cons_zero])
            refine ord_end ?_
            clear hS0 hS1
            obtain ⟨q1, q2⟩ := hS2
            go_wp2_with fail
            go_region
            skip
            have HB2 := Lib.hid h4.bel
            have h5 := h4.drewN 2
            have hS3 : w2.drew.drew.cell? ⟨b, off + (p + 1), none⟩ = some (.int .i64 x) ∧ w2.drew.drew.cell? ⟨b, off + p, none⟩ = some (.int .i64 x) := hcell _ h5.bel
            clear q1 q2
            go_wp2_with fail
            refine wp_region_ord (S := fun w' => w'.cell? ⟨b, off + (p + 1), none⟩ = some (.int .i64 x) ∧ w'.cell? ⟨b, off + p, none⟩ = some (.int .i64 x)) (N := fun i => true) (by kernel_rfl) [(0, true), (1, true), (2, true), (3, true), (4, true), (5, true), (6, true), (7, true), (8, true), (9, true), (10, true), (11, true), (12, true), (13, true), (14, true), (15, true), (16, true), (18, true), (19, true), (20, true), (21, true), (22, true), (17, false), (23, false), (24, true), (25, true)] (by kernel_rfl) ?_
            iterate 6 (refine ord_look rfl hS3 rfl (by intro w hS; obtain ⟨hS1, hS2⟩ := hS; go_simp; with_reducible rfl) (fun c a w h => h) ?_; simp only [Act.put, List.setIfInBounds_toArray, List.set_cons_succ, List.set_cons_zero])
            iterate 7 (refine ord_skip rfl hS3 rfl (fun c a w h => h) ?_; simp only [Act.put, List.setIfInBounds_toArray, List.set_cons_succ, List.set_cons_zero])
            iterate 4 (refine ord_look rfl hS3 rfl (by intro w hS; obtain ⟨hS1, hS2⟩ := hS; go_simp; with_reducible rfl) (fun c a w h => h) ?_; simp only [Act.put, List.setIfInBounds_toArray, List.set_cons_succ, List.set_cons_zero])
            iterate 5 (refine ord_look rfl hS3 rfl (by intro w hS; obtain ⟨hS1, hS2⟩ := hS; go_simp; with_reducible rfl) (fun c a w h => h) ?_; simp only [Act.put, List.setIfInBounds_toArray, List.set_cons_succ, List.set_cons_zero])
            refine ord_act rfl rfl (fun K hK => ?_)
            refine wp_call 18 _ _ Try.func18 rfl (by kernel_rfl) _ _ rfl #[.pointer (some ⟨c, 0, none⟩)] (by simp [Act.eval]) (R := fun v w3 => ∃ A cp, v = .slice A 1 cp ∧ Tmp w0 w3 (Old (fun _ => False) w2.drew.drew w3) (.slice A 1 cp) 1 (ints [x]) ∧ CB w0 w3 (Old (fun _ => False) w2.drew.drew w3) c 1 ((p + 1) + 1) [(x, oneR ((p + 1 : Nat) : Int))]) (calls_ret (h5.held [x] rfl) (by rintro e w1 ⟨A, cp, rfl, h⟩; exact ⟨_, rfl, A, cp, rfl, h.2.1, h.2.2.1⟩)) ?_
            rintro v w3 ⟨A3, cp3, rfl, t3, h6⟩
            have hS4 := hcell w3 h6.bel
            refine hK _ _ ⟨fun _ => hS4, ?_⟩
            clear hK K hS3 h5 h4
            simp only [Act.put, List.setIfInBounds_toArray, List.set_cons_succ, List.set_cons_zero]
            refine ord_act rfl rfl (fun K hK => ?_)
            have hsrc : Src w3 (.slice (some ⟨b, off + (p + 1), none⟩) 1 (cap - (p + 1))) 1 ([x].map (Value.int .i64)) := .inr ⟨b, off + (p + 1), _, rfl, Nat.lt_of_lt_of_le hbl h6.bel.size, by omega, by have := HCM.out; unfold maxLen at this ⊢; omega, fun t u hu => by
              have ht : t = 0 := by have := (List.getElem?_eq_some_iff.1 hu).1; simpa using this
              subst ht
              simp at hu
              subst hu
              exact hS4.1⟩
            have hsm := same_any (xs := [x]) (ys := [x]) t3.src hsrc
            rw [decide_eq_true rfl] at hsm
            refine wp_call 23 _ _ Try.func23 rfl (by kernel_rfl) _ _ rfl #[.slice A3 1 cp3, .slice (some ⟨b, off + (p + 1), none⟩) 1 (cap - (p + 1))] (by simp [Act.eval]) (R := fun v w4 => v = .bool true ∧ ∃ m, w4 = w3.drewN m) (calls_ret hsm (by rintro e w1 ⟨rfl, h⟩; exact ⟨_, rfl, rfl, h⟩)) ?_
            rintro v w4 ⟨rfl, m, rfl⟩
            replace h6 := (h6.drewN m).free
            have hS5 := hcell _ h6.bel
            refine hK _ _ ⟨fun _ => hS5, ?_⟩
            clear hK K hS4 hsrc hsm t3
            simp only [Act.put, List.setIfInBounds_toArray, List.set_cons_succ, List.set_cons_zero]
            iterate 2 (refine ord_look rfl hS5 rfl (by intro w hS; obtain ⟨hS1, hS2⟩ := hS; go_simp; with_reducible rfl) (fun c a w h => h) ?_; simp only [Act.put, List.setIfInBounds_toArray, List.set_cons_succ, List.set_cons_zero])
            refine ord_end ?_
            generalize w3.drewN m = w5 at *
            obtain ⟨q1, q2⟩ := hS5
            go_wp2_with fail
            refine (h6.get x hwx true (oneR ((p + 1 : Nat) : Int)) ⟨by simp [getl], by simp [getl]⟩).mono ?_; rintro e w6 ⟨A6, cp6, rfl, _, t6, h7, _⟩
            clear q1 q2 h6
            go_wp2_with fail
            refine (h7.one ((p + 1 : Nat) : Int)).mono ?_; rintro e w7 ⟨g7, cp7, rfl, t7, h8, hc7⟩
            replace t6 := t6.keptO hc7
            clear h7
            go_wp2_with fail
            refine (h8.alike t6 t7 rfl rfl true (by simp)).mono ?_; rintro e w8 ⟨rfl, m8, rfl⟩
            replace h8 := (h8.drewN m8).free
            clear t6 t7 hc7
            generalize w7.drewN m8 = w9 at *
            go_wp2_with fail
            go_roundg (100 - ((p + 1) + 1))
            case measure => have := HK.out; omega
            case rel => exact ⟨(p + 1) + 1, by omega, by omega, rfl, by go_num, [(x, oneR ((p + 1 : Nat) : Int))], Lib.hid (by rw [if_neg (by omega), Nat.add_sub_cancel, HX.out] <;> rfl), h8⟩
          · have hyx : ¬ y = x := fun e => hxy e.symm
            have hbn : (x != y) = true := by simp [hxy]
            have hbe : (x == y) = false := by simp [hxy]
            have HPV : Hid (putv 1 L x (oneR ((p + 1 : Nat) : Int)) = (y, true, [(x, oneR ((p + 1 : Nat) : Int))])) := Lib.hid (by rw [hL]; simp [putv, getl, hyx])
            clear hL
            go_wp2_with fail
            have hS0 := hcell wr.drew HBW.out.drew
            refine wp_region_ord (S := fun w' => w'.cell? ⟨b, off + (p + 1), none⟩ = some (.int .i64 x) ∧ w'.cell? ⟨b, off + p, none⟩ = some (.int .i64 y)) (N := fun i => true) (by kernel_rfl) [(0, true), (1, true), (2, true), (3, true), (4, true), (5, true), (6, false), (7, false), (8, true), (9, true), (10, true), (11, true), (12, true)] (by kernel_rfl) ?_
            iterate 6 (refine ord_look rfl hS0 rfl (by intro w hS; obtain ⟨hS1, hS2⟩ := hS; go_simp; with_reducible rfl) (fun c a w h => h) ?_; simp only [Act.put, List.setIfInBounds_toArray, List.set_cons_succ, List.set_cons_zero])
            refine ord_act rfl rfl (fun K hK => ?_)
            refine wp_call 21 _ _ Try.func21 rfl (by kernel_rfl) _ _ rfl #[.int .i64 ((p + 1 : Nat) : Int)] (by simp [Act.eval]) (R := fun v w1 => ∃ g cp, v = .slice (some ⟨g, 0, none⟩) 2 cp ∧ Tmp w0 w1 (Old (fun _ => False) wr.drew w1) (.slice (some ⟨g, 0, none⟩) 2 cp) (oneR ((p + 1 : Nat) : Int)).length (insCells (oneR ((p + 1 : Nat) : Int))) ∧ CB w0 w1 (Old (fun _ => False) wr.drew w1) c 1 (p + 1) L) (calls_ret ((h2.drewN 1).one ((p + 1 : Nat) : Int)) (by rintro e w1 ⟨g, cp, rfl, h⟩; exact ⟨_, rfl, g, cp, rfl, h.1, h.2.1⟩)) ?_
            rintro v w1 ⟨g, cp, rfl, t1, h3⟩
            have hS1 := hcell w1 h3.bel
            refine hK _ _ ⟨fun _ => hS1, ?_⟩
            clear hK K
            simp only [Act.put, List.setIfInBounds_toArray, List.set_cons_succ, List.set_cons_zero]
            refine ord_act rfl rfl (fun K hK => ?_)
            refine wp_call 13 _ _ Try.func13 rfl (by kernel_rfl) _ _ rfl #[.pointer (some ⟨c, 0, none⟩), .int .i64 x, .slice (some ⟨g, 0, none⟩) 2 cp] (by simp [Act.eval]) (R := fun v w2 => v = .tuple #[.int .i64 y, .bool true] ∧ CB w0 w2 (Old (fun _ => False) wr.drew w1) c 1 ((p + 1) + 1) [(x, oneR ((p + 1 : Nat) : Int))]) (calls_ret (h3.put x hwx _ (oneR ((p + 1 : Nat) : Int)) t1 (by simp [oneR]) (by omega) y true _ HPV.out) (by rintro e w1 ⟨rfl, h⟩; exact ⟨_, rfl, rfl, h.1⟩)) ?_
            rintro v w2 ⟨rfl, h4⟩
            replace h4 := h4.free
            have hS2 := hcell w2 h4.bel
            refine hK _ _ ⟨fun _ => hS2, ?_⟩
            clear hK K t1 h3 h2
            simp only [Act.put, List.setIfInBounds_toArray, List.set_cons_succ, List.set_cons_zero]
            iterate 5 (refine ord_look rfl hS2 rfl (by intro w hS; obtain ⟨hS1, hS2⟩ := hS; go_simp; with_reducible rfl) (fun c a w h => h) ?_; simp only [Act.put, List.setIfInBounds_toArray, List.set_cons_succ, List.set_cons_zero])
            refine ord_end ?_
            clear hS0 hS1
            obtain ⟨q1, q2⟩ := hS2
            go_wp2_with fail
            go_region
            skip
            have HB2 := Lib.hid h4.bel
            have h5 := h4.drewN 2
            have hS3 : w2.drew.drew.cell? ⟨b, off + (p + 1), none⟩ = some (.int .i64 x) ∧ w2.drew.drew.cell? ⟨b, off + p, none⟩ = some (.int .i64 y) := hcell _ h5.bel
            clear q1 q2
            go_wp2_with fail
            refine wp_region_ord (S := fun w' => w'.cell? ⟨b, off + (p + 1), none⟩ = some (.int .i64 x) ∧ w'.cell? ⟨b, off + p, none⟩ = some (.int .i64 y)) (N := fun i => true) (by kernel_rfl) [(0, true), (1, true), (2, true), (3, true), (4, true), (5, true), (6, true), (7, true), (8, true), (9, true), (10, true), (11, true), (12, true), (13, true), (14, true), (15, true), (16, true), (18, true), (19, true), (20, true), (21, true), (22, true), (17, false), (23, false), (24, true), (25, true)] (by kernel_rfl) ?_
            iterate 6 (refine ord_look rfl hS3 rfl (by intro w hS; obtain ⟨hS1, hS2⟩ := hS; go_simp; with_reducible rfl) (fun c a w h => h) ?_; simp only [Act.put, List.setIfInBounds_toArray, List.set_cons_succ, List.set_cons_zero])
            iterate 7 (refine ord_look rfl hS3 rfl (by intro w hS; obtain ⟨hS1, hS2⟩ := hS; go_simp; with_reducible rfl) (fun c a w h => h) ?_; simp only [Act.put, List.setIfInBounds_toArray, List.set_cons_succ, List.set_cons_zero])
            iterate 4 (refine ord_look rfl hS3 rfl (by intro w hS; obtain ⟨hS1, hS2⟩ := hS; go_simp; with_reducible rfl) (fun c a w h => h) ?_; simp only [Act.put, List.setIfInBounds_toArray, List.set_cons_succ, List.set_cons_zero])
            iterate 5 (refine ord_look rfl hS3 rfl (by intro w hS; obtain ⟨hS1, hS2⟩ := hS; go_simp; with_reducible rfl) (fun c a w h => h) ?_; simp only [Act.put, List.setIfInBounds_toArray, List.set_cons_succ, List.set_cons_zero])
            refine ord_act rfl rfl (fun K hK => ?_)
            refine wp_call 18 _ _ Try.func18 rfl (by kernel_rfl) _ _ rfl #[.pointer (some ⟨c, 0, none⟩)] (by simp [Act.eval]) (R := fun v w3 => ∃ A cp, v = .slice A 1 cp ∧ Tmp w0 w3 (Old (fun _ => False) w2.drew.drew w3) (.slice A 1 cp) 1 (ints [x]) ∧ CB w0 w3 (Old (fun _ => False) w2.drew.drew w3) c 1 ((p + 1) + 1) [(x, oneR ((p + 1 : Nat) : Int))]) (calls_ret (h5.held [x] rfl) (by rintro e w1 ⟨A, cp, rfl, h⟩; exact ⟨_, rfl, A, cp, rfl, h.2.1, h.2.2.1⟩)) ?_
            rintro v w3 ⟨A3, cp3, rfl, t3, h6⟩
            have hS4 := hcell w3 h6.bel
            refine hK _ _ ⟨fun _ => hS4, ?_⟩
            clear hK K hS3 h5 h4
            simp only [Act.put, List.setIfInBounds_toArray, List.set_cons_succ, List.set_cons_zero]
            refine ord_act rfl rfl (fun K hK => ?_)
            have hsrc : Src w3 (.slice (some ⟨b, off + (p + 1), none⟩) 1 (cap - (p + 1))) 1 ([x].map (Value.int .i64)) := .inr ⟨b, off + (p + 1), _, rfl, Nat.lt_of_lt_of_le hbl h6.bel.size, by omega, by have := HCM.out; unfold maxLen at this ⊢; omega, fun t u hu => by
              have ht : t = 0 := by have := (List.getElem?_eq_some_iff.1 hu).1; simpa using this
              subst ht
              simp at hu
              subst hu
              exact hS4.1⟩
            have hsm := same_any (xs := [x]) (ys := [x]) t3.src hsrc
            rw [decide_eq_true rfl] at hsm
            refine wp_call 23 _ _ Try.func23 rfl (by kernel_rfl) _ _ rfl #[.slice A3 1 cp3, .slice (some ⟨b, off + (p + 1), none⟩) 1 (cap - (p + 1))] (by simp [Act.eval]) (R := fun v w4 => v = .bool true ∧ ∃ m, w4 = w3.drewN m) (calls_ret hsm (by rintro e w1 ⟨rfl, h⟩; exact ⟨_, rfl, rfl, h⟩)) ?_
            rintro v w4 ⟨rfl, m, rfl⟩
            replace h6 := (h6.drewN m).free
            have hS5 := hcell _ h6.bel
            refine hK _ _ ⟨fun _ => hS5, ?_⟩
            clear hK K hS4 hsrc hsm t3
            simp only [Act.put, List.setIfInBounds_toArray, List.set_cons_succ, List.set_cons_zero]
            iterate 2 (refine ord_look rfl hS5 rfl (by intro w hS; obtain ⟨hS1, hS2⟩ := hS; go_simp; with_reducible rfl) (fun c a w h => h) ?_; simp only [Act.put, List.setIfInBounds_toArray, List.set_cons_succ, List.set_cons_zero])
            refine ord_end ?_
            generalize w3.drewN m = w5 at *
            obtain ⟨q1, q2⟩ := hS5
            go_wp2_with fail
            refine (h6.get x hwx true (oneR ((p + 1 : Nat) : Int)) ⟨by simp [getl], by simp [getl]⟩).mono ?_; rintro e w6 ⟨A6, cp6, rfl, _, t6, h7, _⟩
            clear q1 q2 h6
            go_wp2_with fail
            refine (h7.one ((p + 1 : Nat) : Int)).mono ?_; rintro e w7 ⟨g7, cp7, rfl, t7, h8, hc7⟩
            replace t6 := t6.keptO hc7
            clear h7
            go_wp2_with fail
            refine (h8.alike t6 t7 rfl rfl true (by simp)).mono ?_; rintro e w8 ⟨rfl, m8, rfl⟩
            replace h8 := (h8.drewN m8).free
            clear t6 t7 hc7
            generalize w7.drewN m8 = w9 at *
            go_wp2_with fail
            go_roundg (100 - ((p + 1) + 1))
            case measure => have := HK.out; omega
            case rel => exact ⟨(p + 1) + 1, by omega, by omega, rfl, by go_num, [(x, oneR ((p + 1 : Nat) : Int))], Lib.hid (by rw [if_neg (by omega), Nat.add_sub_cancel, HX.out] <;> rfl), h8⟩
      · go_wp2_with fail
        go_ret
        exact ⟨rfl, h2.bel⟩
    · go_wp2_with fail
      go_ret
      exact ⟨rfl, h2.bel⟩
end Go.Proofs.Ythmjmggeihonnaa
