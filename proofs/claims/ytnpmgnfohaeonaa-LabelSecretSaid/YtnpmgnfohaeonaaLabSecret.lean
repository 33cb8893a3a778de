/- LabelSecret: the walk of the law. -/
import Derived.Test.YtnpmgnfohaeonaaLabReturns
import Derived.Deep.CutBlock
namespace Go.Proofs.Ytnpmgnfohaeonaa
set_option linter.unusedVariables false
set_option linter.unusedSimpArgs false
open Go.RowKit

theorem check_keep (t : ExprT) (h : ∀ prm, tellE prm t = false) : checkv ⟨[], [.mk 6 ⟨#[]⟩ 0 [t] [] [], .mk 1 ⟨#[88]⟩ 0 [t] [] []]⟩ = 0 := by
  simp [checkv, badP, tellS_eq, ownS, leaksv, h, gX]
theorem check_op (t : ExprT) (h : ∀ prm, tellE prm t = false) (o : Int) : checkv ⟨[], [.mk o ⟨#[120]⟩ 0 [t] [] []]⟩ = if (decide (o = 1 ∨ o = 2 ∨ o = 5 ∨ o = 7 ∨ o = 8 ∨ o = 9) && secE t) then 5 else 0 := by
  have e : tellS (prms []) true (.mk o ⟨#[120]⟩ 0 [t] [] []) = (decide (o = 1 ∨ o = 2 ∨ o = 5 ∨ o = 7 ∨ o = 8 ∨ o = 9) && secE t) := by
    rw [tellS_eq]
    by_cases h1 : o = 1
    · subst h1; simp [ownS, leaksv, h, gx]
    · by_cases h2 : o = 2
      · subst h2; simp [ownS, leaksv, h]
      · by_cases h9 : o = 9
        · subst h9; simp [ownS, leaksv, h]
        · by_cases h5 : o = 5 ∨ o = 7 ∨ o = 8
          · have : (o = 1 ∨ o = 2 ∨ o = 5 ∨ o = 7 ∨ o = 8 ∨ o = 9) := by omega
            simp [ownS, leaksv, h, h1, h2, h9, h5, this]
          · have : ¬ (o = 1 ∨ o = 2 ∨ o = 5 ∨ o = 7 ∨ o = 8 ∨ o = 9) := by omega
            simp [ownS, leaksv, h, h1, h2, h9, h5, this]
  simp only [checkv, badP, List.any_cons, List.any_nil, Bool.or_false]
  rw [e]

set_option maxHeartbeats 16000000 in
set_option maxRecDepth 100000 in
theorem labelSecret_walk (te : ExprT) (ce : List Value) (w : World) (he : rdExprS.K w te ce) :
    Calls Try.prog 5 #[.agg ce.toArray] w fun e w' => e = .returned (.bool true) ∧ Below w.heap.size w w' := by
  suffices hh : ∀ b0, b0 = w.heap.size → Calls Try.prog 5 #[.agg ce.toArray] w fun e w' => e = .returned (.bool true) ∧ Below b0 w w' from hh _ rfl
  intro b0 hb0
  obtain ⟨hie, hsm⟩ := he
  obtain ⟨o1, n1, s1, A1, k1, c1, rfl⟩ : ∃ o1 n1 s1 A1 k1 c1, ce = [.int .i64 o1, .int .i64 n1, .string s1, .slice A1 k1 c1] := by cases hie; exact ⟨_, _, _, _, _, _, rfl⟩
  have CPL : Hid (∀ wx, Below w.heap.size w wx → Calls Try.prog 17 #[.agg #[.int .i64 o1, .int .i64 n1, .string s1, .slice A1 k1 c1], .int .i64 60] wx fun e w' => ∃ (a b : Int) (s : ByteArray) (A : Option Addr) (k c : Nat), e = .returned (.agg #[.int .i64 a, .int .i64 b, .string s, .slice A k c]) ∧ IsExpr w' (fun k => wx.heap.size ≤ k ∧ k < w'.heap.size) (plainT 60 te) [.int .i64 a, .int .i64 b, .string s, .slice A k c] ∧ Below wx.heap.size wx w') := Lib.hid (fun wx hb => plain_any 60 (by omega) te wx (Lt w) _ (hie.keep hb) hsm)
  have htl : ∀ prm, tellE prm (plainT 60 te) = false := fun prm => tellE_plain prm 60 te
  generalize plainT 60 te = tp at *
  obtain ⟨x, hx⟩ : ∃ x, secE tp = x := ⟨_, rfl⟩
  have HTL := Lib.hid htl
  have HX := Lib.hid hx
  have HW := Lib.hid hb0
  have HBB : Hid (Below b0 w (w.alloc (.cells #[.int .i64 o1, .int .i64 n1, .string s1, .slice A1 k1 c1] 28))) := Lib.hid (by rw [hb0]; exact (Below.refl _ _).alloc (Nat.le_refl _) _)
  clear hie hsm htl hx
  show Calls Try.prog 5 #[.agg #[.int .i64 o1, .int .i64 n1, .string s1, .slice A1 k1 c1]] w _
  go_enter Try.func5, Try.ntmps5
  go_wp2_with fail
  refine (shown_any _).mono ?_; rintro e w1 ⟨rfl, hb1⟩
  have hbx1 : w1.heap[b0]? = some (.cells #[.int .i64 o1, .int .i64 n1, .string s1, .slice A1 k1 c1] 28 (0, 0)) := (Below.chg hb1).heap (by rw [hb0]; exact heap_new _ _) (fun x => x)
  have hb1' : Below b0 w w1 := HBB.out.trans (hb1.mono (by simp; omega))
  rw [← hb0]
  clear hb0 hb1
  have q0 := cell_of_block hbx1 0
  have q1 := cell_of_block hbx1 1
  have q2 := cell_of_block hbx1 2
  have q3 := cell_of_block hbx1 3
  simp at q0 q1 q2 q3
  go_wp2_with fail
  refine (CPL.out w1 (by rw [← HW.out]; exact hb1')).mono ?_; rintro e w2 ⟨a, b, s2, A2, k2, c2, rfl, hip, hb2⟩
  have hbx2 := (Below.chg hb2).heap hbx1 (fun x => x)
  have hlb := lt_of_heap hbx1
  obtain ⟨w3, hw3⟩ : ∃ w3, w3 = ((((w2.setCell ⟨b0, 0, none⟩ (.int .i64 a)).setCell ⟨b0, 1, none⟩ (.int .i64 b)).setCell ⟨b0, 2, none⟩ (.string s2)).setCell ⟨b0, 3, none⟩ (.slice A2 k2 c2)) := ⟨_, rfl⟩
  have hchg : Chg (fun k => k = b0) w2 w3 := by
    rw [hw3]
    exact ((((Chg.refl (fun k => k = b0) w2).setCell (p := ⟨b0, 0, none⟩) (fun _ => rfl) _).setCell (p := ⟨b0, 1, none⟩) (fun _ => rfl) _).setCell (p := ⟨b0, 2, none⟩) (fun _ => rfl) _).setCell (p := ⟨b0, 3, none⟩) (fun _ => rfl) _
  have hbx3 : w3.heap[b0]? = some (.cells #[.int .i64 a, .int .i64 b, .string s2, .slice A2 k2 c2] 28 (0, 0)) := by
    rw [hw3]
    exact heap_set (heap_set (heap_set (heap_set hbx2 0 _) 1 _) 2 _) 3 _
  have hip3 : IsExpr w3 (Lt w3) tp [.int .i64 a, .int .i64 b, .string s2, .slice A2 k2 c2] := (hip.kept hchg (fun k hk e => by omega)).mono (fun k hk => Nat.lt_of_lt_of_le hk.2 hchg.size)
  have hb3 : Below b0 w w3 := hb1'.trans ((hb2.mono (by omega)).trans (hchg.below (B := b0) (fun k e => by omega) (by have := hb2.size; omega)))
  have HW3 := Lib.hid hw3
  have z0 := cell_of_block hbx2 0
  have z1 := cell_of_block hbx2 1
  have z2 := cell_of_block hbx2 2
  have z3 := cell_of_block hbx2 3
  have f0 := frozen_of_block hbx2 0
  have f1 := frozen_of_block hbx2 1
  have f2 := frozen_of_block hbx2 2
  have f3 := frozen_of_block hbx2 3
  simp at z0 z1 z2 z3
  have HI3 := Lib.hid (And.intro hip3 (And.intro hbx3 hb3))
  clear q0 q1 q2 q3 hbx1 hb1' hip hb2 hbx2 hlb hchg hbx3 hip3 hb3 hw3
  go_upto_region 3 with fail
  rw [← HW3.out]
  clear z0 z1 z2 z3 f0 f1 f2 f3 HW3
  have z0 := cell_of_block HI3.out.2.1 0
  have z1 := cell_of_block HI3.out.2.1 1
  have z2 := cell_of_block HI3.out.2.1 2
  have z3 := cell_of_block HI3.out.2.1 3
  simp at z0 z1 z2 z3
  obtain ⟨L, hL⟩ : ∃ L, L = w3.heap.size := ⟨_, rfl⟩
  obtain ⟨w4, hw4⟩ : ∃ w4, w4 = w3.alloc (.cells #[.int .i64 a, .int .i64 b, .string s2, .slice A2 k2 c2] 28) := ⟨_, rfl⟩
  have hE4 : w4.heap[L]? = some (.cells #[.int .i64 a, .int .i64 b, .string s2, .slice A2 k2 c2] 28 (0, 0)) := by rw [hw4]; exact heap_new' hL.symm
  have hb34 : Below w3.heap.size w3 w4 := by rw [hw4]; exact (Below.refl _ _).alloc (Nat.le_refl _) _
  have hi4 : IsExpr w4 (Lt w4) tp [.int .i64 a, .int .i64 b, .string s2, .slice A2 k2 c2] := (HI3.out.1.keep hb34).mono (fun k hk => Nat.lt_of_lt_of_le hk hb34.size)
  have hx4 := (Below.chg hb34).heap HI3.out.2.1 (fun x => x)
  have hb4 : Below b0 w w4 := HI3.out.2.2.trans (hb34.mono (by have := lt_of_heap HI3.out.2.1; omega))
  have hex : ∀ wx, Below w4.heap.size w4 wx → Exprs wx (Lt wx) (some ⟨L, 0, none⟩) 1 [tp] := fun wx hb => by
    have h1 := (Below.chg hb).heap hE4 (fun x => x)
    have h3 : IsExpr wx (Lt wx) tp [.int .i64 a, .int .i64 b, .string s2, .slice A2 k2 c2] := (hi4.keep hb).mono (fun k hk => Nat.lt_of_lt_of_le hk hb.size)
    exact exprs_one (ds := [.int .i64 a, .int .i64 b, .string s2, .slice A2 k2 c2]) h1 (lt_of_heap h1) h3
  have COF : Hid (∀ wx, Below w4.heap.size w4 wx → Calls Try.prog 13 #[.agg #[.int .i64 a, .int .i64 b, .string s2, .slice A2 k2 c2]] wx fun e w' => e = .returned (.bool x) ∧ Below wx.heap.size wx w') := Lib.hid (fun wx hb => by rw [← HX.out]; exact of_tree (hi4.keep hb))
  have HEX := Lib.hid hex
  have HW4 := Lib.hid hw4
  have H4 := Lib.hid (And.intro hx4 hb4)
  have hL4 : w4.heap.size = L + 1 := by rw [hw4, hL]; simp
  obtain ⟨w5, hw5⟩ : ∃ w5, w5 = w4.alloc (.cells #[.int .i64 6, .string ⟨#[]⟩, .int .i64 0, .slice (some ⟨L, 0, none⟩) 1 1, .slice none 0 0, .slice none 0 0, .int .i64 1, .string ⟨#[88]⟩, .int .i64 0, .slice (some ⟨L, 0, none⟩) 1 1, .slice none 0 0, .slice none 0 0] 42) := ⟨_, rfl⟩
  have hK5 : w5.heap[L + 1]? = some (.cells #[.int .i64 6, .string ⟨#[]⟩, .int .i64 0, .slice (some ⟨L, 0, none⟩) 1 1, .slice none 0 0, .slice none 0 0, .int .i64 1, .string ⟨#[88]⟩, .int .i64 0, .slice (some ⟨L, 0, none⟩) 1 1, .slice none 0 0, .slice none 0 0] 42 (0, 0)) := by rw [hw5]; exact heap_new' hL4
  have hb45 : Below w4.heap.size w4 w5 := by rw [hw5]; exact (Below.refl _ _).alloc (Nat.le_refl _) _
  have CK1 : Hid (Calls Try.prog 11 #[.agg #[.slice none 0 0, .slice (some ⟨L + 1, 0, none⟩) 2 2]] w5 fun e w' => e = .returned (.int .i64 0) ∧ Below w5.heap.size w5 w') := Lib.hid (by
    rw [← check_keep tp HTL.out]
    exact check_any ⟨[], [.mk 6 ⟨#[]⟩ 0 [tp] [] [], .mk 1 ⟨#[88]⟩ 0 [tp] [] []]⟩ (funcs_nil _ _) (stmts_two (ds := [.int .i64 6, .string ⟨#[]⟩, .int .i64 0, .slice (some ⟨L, 0, none⟩) 1 1, .slice none 0 0, .slice none 0 0]) (es := [.int .i64 1, .string ⟨#[88]⟩, .int .i64 0, .slice (some ⟨L, 0, none⟩) 1 1, .slice none 0 0, .slice none 0 0]) hK5 (lt_of_heap hK5) rfl (isStmt_of (by decide) (HEX.out w5 hb45) (stmts_nil _ _) (stmts_nil _ _) rfl rfl rfl) (isStmt_of (small1 _) (HEX.out w5 hb45) (stmts_nil _ _) (stmts_nil _ _) rfl rfl rfl)) (fun k hk => hk))
  have HB45 := Lib.hid hb45
  go_upto_region 4 with fail
  rw [← hL, ← hw4]
  clear hE4 hb34 hi4 hx4 hb4 hex hw4 z0 z1 z2 z3 hL hK5 hb45
  go_wp2_with fail
  rw [← hw5]
  clear hw5
  refine CK1.out.mono ?_; rintro e w6 ⟨rfl, hb6⟩
  have hb46 := bel_trans HB45.out hb6
  have hx6 := (Below.chg hb46).heap H4.out.1 (fun x => x)
  have z0 := cell_of_block hx6 0
  have z1 := cell_of_block hx6 1
  have z2 := cell_of_block hx6 2
  have z3 := cell_of_block hx6 3
  simp at z0 z1 z2 z3
  clear hb6 hx6
  have HB46 := Lib.hid hb46
  clear hb46
  go_wp2_with fail
  refine (COF.out w6 HB46.out).mono ?_; rintro e w7 ⟨rfl, hb7⟩
  have HB47 := Lib.hid (bel_trans HB46.out hb7)
  clear hb7 z0 z1 z2 z3 CPL CK1 hL4
  obtain ⟨wv, hwv⟩ : ∃ wv : Int, (if x then 5 else 0) = wv := ⟨_, rfl⟩
  have HWV := Lib.hid hwv
  clear hwv
  go_upto_if 26 with (fail)
  go_cut [6] from 27 to 27 (fun v wx => v = .int .i64 wv ∧ wx = w7)
  case first =>
    cases x with
    | true =>
      obtain rfl : wv = 5 := by rw [← HWV.out]; rfl
      go_wp2_with fail
      go_meet
      case rel => exact ⟨rfl, rfl⟩
    | false =>
      obtain rfl : wv = 0 := by rw [← HWV.out]; rfl
      go_wp2_with fail
      go_meet
      case rel => exact ⟨rfl, rfl⟩
  case rest =>
    obtain ⟨rfl, hwc⟩ := hcut
    rw [hwc]
    clear hwc
    go_wp2_with fail
    go_loopg [7] 9 (fun k v wr => ∃ (j : Nat) (o : Int), j ≤ 9 ∧ k = 9 - j ∧ v = .int .i64 o ∧ Hid (o = (j : Int) + 1) ∧ Hid (Below w4.heap.size w4 wr))
    case atStart => exact ⟨0, 1, by omega, rfl, rfl, Lib.hid rfl, HB47⟩
    case round =>
      obtain ⟨j, o, hj, hk, rfl, HO, HB⟩ := hrel
      have HK := Lib.hid hk
      clear hk
      by_cases hlt : j < 9
      · have ho : 1 ≤ o ∧ o ≤ 9 := by have := HO.out; omega
        obtain ⟨ho1, ho9⟩ := ho
        obtain ⟨wy, hwy⟩ : ∃ wy, wy = wr.alloc (.cells #[.int .i64 o, .string ⟨#[120]⟩, .int .i64 0, .slice (some ⟨L, 0, none⟩) 1 1, .slice none 0 0, .slice none 0 0] 42) := ⟨_, rfl⟩
        have hby : Below wr.heap.size wr wy := by rw [hwy]; exact (Below.refl _ _).alloc (Nat.le_refl _) _
        have hsy : wy.heap[wr.heap.size]? = some (.cells #[.int .i64 o, .string ⟨#[120]⟩, .int .i64 0, .slice (some ⟨L, 0, none⟩) 1 1, .slice none 0 0, .slice none 0 0] 42 (0, 0)) := by rw [hwy]; exact heap_new _ _
        obtain ⟨tl, htl⟩ : ∃ tl : Bool, decide (o = 1 ∨ o = 2 ∨ o = 5 ∨ o = 7 ∨ o = 8 ∨ o = 9) = tl := ⟨_, rfl⟩
        have HTT := Lib.hid htl
        obtain ⟨vv, hvv⟩ : ∃ vv : Int, (if tl && x then 5 else 0) = vv := ⟨_, rfl⟩
        have HVV := Lib.hid hvv
        obtain ⟨S, hS⟩ : ∃ S, S = wy.heap.size := ⟨_, rfl⟩
        obtain ⟨wu, hwu⟩ : ∃ wu, wu = wy.alloc (.cells #[.int .i64 o, .string ⟨#[120]⟩, .int .i64 0, .slice (some ⟨L, 0, none⟩) 1 1, .slice none 0 0, .slice none 0 0] 42) := ⟨_, rfl⟩
        have hsu : wu.heap[S]? = some (.cells #[.int .i64 o, .string ⟨#[120]⟩, .int .i64 0, .slice (some ⟨L, 0, none⟩) 1 1, .slice none 0 0, .slice none 0 0] 42 (0, 0)) := by rw [hwu]; exact heap_new' hS.symm
        have hbu : Below w4.heap.size w4 wu := bel_trans HB.out (bel_trans hby (by rw [hwu]; exact (Below.refl _ _).alloc (Nat.le_refl _) _))
        have CK : Hid (Calls Try.prog 11 #[.agg #[.slice none 0 0, .slice (some ⟨S, 0, none⟩) 1 1]] wu fun e w' => e = .returned (.int .i64 vv) ∧ Below wu.heap.size wu w') := Lib.hid (by
          rw [← HVV.out, ← HTT.out, ← HX.out, ← check_op tp HTL.out o]
          exact check_any ⟨[], [.mk o ⟨#[120]⟩ 0 [tp] [] []]⟩ (funcs_nil _ _) (stmts_one (ds := [.int .i64 o, .string ⟨#[120]⟩, .int .i64 0, .slice (some ⟨L, 0, none⟩) 1 1, .slice none 0 0, .slice none 0 0]) hsu (lt_of_heap hsu) (isStmt_of (small1 _) (HEX.out wu hbu) (stmts_nil _ _) (stmts_nil _ _) rfl rfl rfl)) (fun k hk => hk))
        have z0 := cell_of_block hsy 0
        have z1 := cell_of_block hsy 1
        have z2 := cell_of_block hsy 2
        have z3 := cell_of_block hsy 3
        have z4 := cell_of_block hsy 4
        have z5 := cell_of_block hsy 5
        simp at z0 z1 z2 z3 z4 z5
        have HBU := Lib.hid hbu
        have HWU := Lib.hid (And.intro hS hwu)
        clear htl hvv hsu hbu hsy hby hS hwu
        go_upto_region 14 with fail
        rw [← hwy]
        clear hwy
        go_cut [9] from 34 to 55 (fun v wx => v = .bool tl ∧ wx = wy)
        case first =>
          have hcs : o = 1 ∨ o = 2 ∨ o = 3 ∨ o = 4 ∨ o = 5 ∨ o = 6 ∨ o = 7 ∨ o = 8 ∨ o = 9 := by omega
          rcases hcs with rfl | rfl | rfl | rfl | rfl | rfl | rfl | rfl | rfl
          all_goals
            obtain ⟨tv, htv⟩ : ∃ tv, tv = tl := ⟨_, rfl⟩
            have h := HTT.out
            simp at h
            subst h
            clear htv
            go_wp2_with fail
            go_meet
            case rel => exact ⟨rfl, rfl⟩
        case rest =>
          obtain ⟨rfl, hwc⟩ := hcut
          rw [hwc]
          clear hwc
          go_wp2_with fail
          rw [← HWU.out.1, ← HWU.out.2]
          refine CK.out.mono ?_; rintro e w8 ⟨rfl, hb8⟩
          have HB8 := Lib.hid (bel_trans HBU.out hb8)
          clear hb8 z0 z1 z2 z3 z4 z5
          cases tl with
          | true =>
            cases x with
            | true =>
              obtain rfl : vv = 5 := by rw [← HVV.out]; rfl
              obtain rfl : wv = 5 := by rw [← HWV.out]; rfl
              go_wp2_with fail
              go_roundg (9 - (j + 1))
              case measure => have := HK.out; omega
              case rel => exact ⟨j + 1, o + 1, by omega, rfl, by go_num, Lib.hid (by have := HO.out; omega), HB8⟩
            | false =>
              obtain rfl : vv = 0 := by rw [← HVV.out]; rfl
              obtain rfl : wv = 0 := by rw [← HWV.out]; rfl
              go_wp2_with fail
              go_roundg (9 - (j + 1))
              case measure => have := HK.out; omega
              case rel => exact ⟨j + 1, o + 1, by omega, rfl, by go_num, Lib.hid (by have := HO.out; omega), HB8⟩
          | false =>
            obtain rfl : vv = 0 := by rw [← HVV.out]; rfl
            go_wp2_with fail
            go_roundg (9 - (j + 1))
            case measure => have := HK.out; omega
            case rel => exact ⟨j + 1, o + 1, by omega, rfl, by go_num, Lib.hid (by have := HO.out; omega), HB8⟩
      · have ho : ¬ o ≤ 9 := by have := HO.out; omega
        have HFIN : Hid (Below b0 w wr) := Lib.hid (H4.out.2.trans (HB.out.mono (by have := lt_of_heap H4.out.1; omega)))
        go_wp2_with fail
        go_ret
        exact ⟨rfl, HFIN.out⟩
end Go.Proofs.Ytnpmgnfohaeonaa
