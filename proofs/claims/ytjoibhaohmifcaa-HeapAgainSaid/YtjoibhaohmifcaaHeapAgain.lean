/- HeapAgain: the walk of the law. -/
import Derived.Test.YtjoibhaohmifcaaHeapTwo
import Derived.Test.YtjoibhaohmifcaaHeapStep
import Derived.Deep.LoopGhost
import Derived.Deep.QuietTactic
import Derived.BigQuiet
import Derived.Lib.Hide
namespace Go.Proofs.Ytjoibhaohmifcaa
set_option linter.unusedVariables false
set_option linter.unusedSimpArgs false
open Go.RowKit Go.Deep

def GRel (w0 : World) (ga gb len : Nat) (q : Int) (k : Nat) (i : Value) (wr : World) : Prop :=
  ∃ (j : Nat) (xss : List (List Int)), j ≤ len ∧ j ≤ 150 ∧ k = 150 - j ∧ i = .int .i64 j ∧ Two w0 wr (fun _ => False) ga gb q xss xss

set_option maxHeartbeats 8000000 in
set_option maxRecDepth 100000 in
theorem again_walk (quota : Int) (A : Option Addr) (cap : Nat) (l : List Step) (w : World) (hr : rdStep.C w A l) (hl : l.length * 32 ≤ 140737488351232) :
    Calls Try.prog 7 #[.int .i64 quota, .slice A l.length cap] w fun e w' => e = .returned (.bool true) ∧ Below w.heap.size w w' := by
  suffices hs : ∀ w0, w0 = w → ∀ len, len = l.length → Calls Try.prog 7 #[.int .i64 quota, .slice A len cap] w fun e w' => e = .returned (.bool true) ∧ Below w0.heap.size w0 w' from hs w rfl _ rfl
  intro w0 hw0 len hlen
  have HR := Lib.hid hr
  have HW := Lib.hid hw0
  have HL := Lib.hid hlen
  have hlm : len ≤ 9223372036854775807 := by omega
  clear hr hw0 hl hlen
  go_enter Try.func7, Try.ntmps7
  go_wp2_with fail
  refine (shown_any _).mono ?_; rintro e w1 ⟨rfl, hb1⟩
  have HB1 : Hid (Below w0.heap.size w0 w1) := by rw [HW.out]; exact hb1
  clear hb1
  go_wp2_with fail
  refine (HB.new HB1.out quota (clampq quota) rfl).mono ?_
  rintro e w2 ⟨ga, rfl, hA⟩
  go_wp2_with fail
  refine (heap_new_any quota w2).mono ?_
  rintro e w3 ⟨gb, rfl, hB, hc3⟩
  have h2 := Two.of_HB hA hB hc3
  clear hA hB hc3
  go_wp2_with fail
  obtain ⟨q, hq⟩ : ∃ q, q = clampq quota := ⟨_, rfl⟩
  rw [← hq] at h2
  clear hq
  go_loopg [8] 150 (fun k i wr => GRel w0 ga gb len q k i wr)
  case atStart => exact ⟨0, [], by omega, by omega, rfl, rfl, h2⟩
  case round =>
    clear h2
    obtain ⟨j, xss, hj1, hj2, hk, rfl, h2⟩ := hrel
    have HK := Lib.hid hk
    clear hk
    by_cases hlt : j < len
    · by_cases h150 : j < 150
      · obtain ⟨b, off, s, rfl, hs, hbl, wf0, wf1, wf2, wf3, hc⟩ := step_cells HR.out j (by rw [← HL.out]; exact hlt)
        obtain ⟨c0, c1, c2, c3⟩ := hc w0 wr HW.out h2.bel
        clear hc hs wf0 wf1 wf2 wf3
        obtain ⟨kd, id, i, v⟩ := s
        simp only at c0 c1 c2 c3
        have h3 : Two w0 (wr.alloc (.cells #[.int .i64 kd, .int .i64 id, .int .i64 i, .int .i64 v] 32)) (fun k => k = wr.heap.size) ga gb q xss xss := h2.chg ((Chg.refl _ _).alloc _) wr.heap.size (Nat.le_refl _) (by simp)
        have hsb : (wr.alloc (.cells #[.int .i64 kd, .int .i64 id, .int .i64 i, .int .i64 v] 32)).heap[wr.heap.size]? = some (.cells #[.int .i64 kd, .int .i64 id, .int .i64 i, .int .i64 v] 32 (0, 0)) := heap_new _ _
        have SC : ∀ wx : World, wx.heap[wr.heap.size]? = some (.cells #[.int .i64 kd, .int .i64 id, .int .i64 i, .int .i64 v] 32 (0, 0)) → wx.cell? ⟨wr.heap.size, 1, none⟩ = some (.int .i64 id) ∧ wx.cell? ⟨wr.heap.size, 2, none⟩ = some (.int .i64 i) ∧ wx.cell? ⟨wr.heap.size, 3, none⟩ = some (.int .i64 v) :=
          fun wx hx => ⟨cell_of_block hx 1, cell_of_block hx 2, cell_of_block hx 3⟩
        have SC := Lib.hid SC
        go_wp2_with fail
        · obtain ⟨_, e2, _⟩ := SC.out _ hsb
          generalize (wr.alloc (.cells #[.int .i64 kd, .int .i64 id, .int .i64 i, .int .i64 v] 32)) = wa at *
          have hcs : (∃ y, makev q xss i = ((xss.length : Int), 0, y)) ∨ makev q xss i = (0, 1, xss) ∨ makev q xss i = (0, 9, xss) := by
            unfold makev
            by_cases p1 : i < 1 ∨ 4096 < i
            · rw [if_pos p1]; exact .inr (.inl rfl)
            · rw [if_neg p1]
              by_cases p2 : q - total xss < i
              · rw [if_pos p2]; exact .inr (.inr rfl)
              · rw [if_neg p2]; exact .inl ⟨_, rfl⟩
          rcases hcs with ⟨y, hm⟩ | hm | hm
          · have HM := Lib.hid hm
            clear hm
            refine (h3.makeA i _ 0 y HM.out).mono ?_; rintro e w4 ⟨rfl, h4, hc4⟩
            have hsb4 := hc4.heap hsb (fun x => x.2 rfl)
            obtain ⟨_, e2', _⟩ := SC.out _ hsb4
            clear e2 hsb h3 hc4
            go_wp2_with fail
            refine (h4.makeB i _ 0 y HM.out).mono ?_; rintro e w5 ⟨rfl, h5, hc5⟩
            have hsb5 := hc5.heap hsb4 (fun x => x.2 rfl)
            clear e2' hsb4 h4 hc5
            obtain ⟨e1, e2, e3⟩ := SC.out w5 hsb5
            obtain ⟨x, hx⟩ : ∃ x, (cellv y id i).getD 0 = x := ⟨_, rfl⟩
            obtain ⟨ok, hok⟩ : ∃ ok, (cellv y id i).isSome = ok := ⟨_, rfl⟩
            obtain ⟨T, hT⟩ : ∃ T, total y = T := ⟨_, rfl⟩
            obtain ⟨n, hn⟩ : ∃ n : Int, (lenv y id : Int) = n := ⟨_, rfl⟩
            have HX := Lib.hid (And.intro hx hok)
            have HT := Lib.hid hT
            have HN := Lib.hid hn
            clear hx hok hT hn
            have CUa : Hid (∀ m : Nat, Calls Try.prog 17 #[.pointer (some ⟨ga, 0, none⟩)] (w5.drewN m) fun e w' => e = .returned (.int .i64 T) ∧ w' = w5.drewN m) := Lib.hid fun m => (h5.drewN m).usedA T HT.out
            have CUb : Hid (∀ m : Nat, Calls Try.prog 17 #[.pointer (some ⟨gb, 0, none⟩)] (w5.drewN m) fun e w' => e = .returned (.int .i64 T) ∧ w' = w5.drewN m) := Lib.hid fun m => (h5.symm.drewN m).usedA T HT.out
            have CLa : Hid (∀ m : Nat, Calls Try.prog 19 #[.pointer (some ⟨ga, 0, none⟩), .int .i64 id] (w5.drewN m) fun e w' => e = .returned (.int .i64 n) ∧ w' = w5.drewN m) := Lib.hid fun m => (h5.drewN m).lenA id n HN.out
            have CLb : Hid (∀ m : Nat, Calls Try.prog 19 #[.pointer (some ⟨gb, 0, none⟩), .int .i64 id] (w5.drewN m) fun e w' => e = .returned (.int .i64 n) ∧ w' = w5.drewN m) := Lib.hid fun m => (h5.symm.drewN m).lenA id n HN.out
            go_wp2_with fail
            refine (h5.getA id i x ok HX.out).mono ?_; rintro e w9 ⟨rfl, rfl⟩
            go_wp2_with fail
            refine (h5.symm.getA id i x ok HX.out).mono ?_; rintro e w9 ⟨rfl, rfl⟩
            go_wp2_with fail
            go_quiet ((first | (go_at_call 17; first | exact Calls.quiet_of_same (CUa.out _) | exact Calls.quiet_of_same (CUb.out _)) | (go_at_call 19; first | exact Calls.quiet_of_same (CLa.out _) | exact Calls.quiet_of_same (CLb.out _))))
            go_wp2_with fail
            go_roundg (149 - j)
            case measure => have := HK.out; omega
            case rel => exact ⟨j + 1, y, by omega, by omega, by omega, by go_num, (h5.drewN nq).free⟩
          · have HM := Lib.hid hm
            clear hm
            refine (h3.makeA i _ 1 xss HM.out).mono ?_; rintro e w4 ⟨rfl, h4, hc4⟩
            have hsb4 := hc4.heap hsb (fun x => x.2 rfl)
            clear e2 hsb h3 hc4
            obtain ⟨e1, e2, e3⟩ := SC.out w4 hsb4
            obtain ⟨x, hx⟩ : ∃ x, (cellv xss id i).getD 0 = x := ⟨_, rfl⟩
            obtain ⟨ok, hok⟩ : ∃ ok, (cellv xss id i).isSome = ok := ⟨_, rfl⟩
            obtain ⟨T, hT⟩ : ∃ T, total xss = T := ⟨_, rfl⟩
            obtain ⟨n, hn⟩ : ∃ n : Int, (lenv xss id : Int) = n := ⟨_, rfl⟩
            have HX := Lib.hid (And.intro hx hok)
            have HT := Lib.hid hT
            have HN := Lib.hid hn
            clear hx hok hT hn
            have CUa : Hid (∀ m : Nat, Calls Try.prog 17 #[.pointer (some ⟨ga, 0, none⟩)] (w4.drewN m) fun e w' => e = .returned (.int .i64 T) ∧ w' = w4.drewN m) := Lib.hid fun m => (h4.drewN m).usedA T HT.out
            have CUb : Hid (∀ m : Nat, Calls Try.prog 17 #[.pointer (some ⟨gb, 0, none⟩)] (w4.drewN m) fun e w' => e = .returned (.int .i64 T) ∧ w' = w4.drewN m) := Lib.hid fun m => (h4.symm.drewN m).usedA T HT.out
            have CLa : Hid (∀ m : Nat, Calls Try.prog 19 #[.pointer (some ⟨ga, 0, none⟩), .int .i64 id] (w4.drewN m) fun e w' => e = .returned (.int .i64 n) ∧ w' = w4.drewN m) := Lib.hid fun m => (h4.drewN m).lenA id n HN.out
            have CLb : Hid (∀ m : Nat, Calls Try.prog 19 #[.pointer (some ⟨gb, 0, none⟩), .int .i64 id] (w4.drewN m) fun e w' => e = .returned (.int .i64 n) ∧ w' = w4.drewN m) := Lib.hid fun m => (h4.symm.drewN m).lenA id n HN.out
            go_wp2_with fail
            refine (h4.getA id i x ok HX.out).mono ?_; rintro e w9 ⟨rfl, rfl⟩
            go_wp2_with fail
            refine (h4.symm.getA id i x ok HX.out).mono ?_; rintro e w9 ⟨rfl, rfl⟩
            go_wp2_with fail
            go_quiet ((first | (go_at_call 17; first | exact Calls.quiet_of_same (CUa.out _) | exact Calls.quiet_of_same (CUb.out _)) | (go_at_call 19; first | exact Calls.quiet_of_same (CLa.out _) | exact Calls.quiet_of_same (CLb.out _))))
            go_wp2_with fail
            go_roundg (149 - j)
            case measure => have := HK.out; omega
            case rel => exact ⟨j + 1, xss, by omega, by omega, by omega, by go_num, (h4.drewN nq).free⟩
          · have HM := Lib.hid hm
            clear hm
            refine (h3.makeA i _ 9 xss HM.out).mono ?_; rintro e w4 ⟨rfl, h4, hc4⟩
            have hsb4 := hc4.heap hsb (fun x => x.2 rfl)
            clear e2 hsb h3 hc4
            obtain ⟨e1, e2, e3⟩ := SC.out w4 hsb4
            obtain ⟨x, hx⟩ : ∃ x, (cellv xss id i).getD 0 = x := ⟨_, rfl⟩
            obtain ⟨ok, hok⟩ : ∃ ok, (cellv xss id i).isSome = ok := ⟨_, rfl⟩
            obtain ⟨T, hT⟩ : ∃ T, total xss = T := ⟨_, rfl⟩
            obtain ⟨n, hn⟩ : ∃ n : Int, (lenv xss id : Int) = n := ⟨_, rfl⟩
            have HX := Lib.hid (And.intro hx hok)
            have HT := Lib.hid hT
            have HN := Lib.hid hn
            clear hx hok hT hn
            have CUa : Hid (∀ m : Nat, Calls Try.prog 17 #[.pointer (some ⟨ga, 0, none⟩)] (w4.drewN m) fun e w' => e = .returned (.int .i64 T) ∧ w' = w4.drewN m) := Lib.hid fun m => (h4.drewN m).usedA T HT.out
            have CUb : Hid (∀ m : Nat, Calls Try.prog 17 #[.pointer (some ⟨gb, 0, none⟩)] (w4.drewN m) fun e w' => e = .returned (.int .i64 T) ∧ w' = w4.drewN m) := Lib.hid fun m => (h4.symm.drewN m).usedA T HT.out
            have CLa : Hid (∀ m : Nat, Calls Try.prog 19 #[.pointer (some ⟨ga, 0, none⟩), .int .i64 id] (w4.drewN m) fun e w' => e = .returned (.int .i64 n) ∧ w' = w4.drewN m) := Lib.hid fun m => (h4.drewN m).lenA id n HN.out
            have CLb : Hid (∀ m : Nat, Calls Try.prog 19 #[.pointer (some ⟨gb, 0, none⟩), .int .i64 id] (w4.drewN m) fun e w' => e = .returned (.int .i64 n) ∧ w' = w4.drewN m) := Lib.hid fun m => (h4.symm.drewN m).lenA id n HN.out
            go_wp2_with fail
            refine (h4.getA id i x ok HX.out).mono ?_; rintro e w9 ⟨rfl, rfl⟩
            go_wp2_with fail
            refine (h4.symm.getA id i x ok HX.out).mono ?_; rintro e w9 ⟨rfl, rfl⟩
            go_wp2_with fail
            go_quiet ((first | (go_at_call 17; first | exact Calls.quiet_of_same (CUa.out _) | exact Calls.quiet_of_same (CUb.out _)) | (go_at_call 19; first | exact Calls.quiet_of_same (CLa.out _) | exact Calls.quiet_of_same (CLb.out _))))
            go_wp2_with fail
            go_roundg (149 - j)
            case measure => have := HK.out; omega
            case rel => exact ⟨j + 1, xss, by omega, by omega, by omega, by go_num, (h4.drewN nq).free⟩
        iterate 2
          · generalize (wr.alloc (.cells #[.int .i64 kd, .int .i64 id, .int .i64 i, .int .i64 v] 32)) = wa at *
            obtain ⟨y, hy⟩ : ∃ y, setv xss id i v = y := ⟨_, rfl⟩
            cases hok0 : (cellv xss id i).isSome with
            | false =>
              have HS := Lib.hid (And.intro hok0 hy)
              clear hok0 hy
              refine (h3.setA id i v false y HS.out).mono ?_; rintro e w4 ⟨rfl, h4, hc4⟩
              have hyx : y = xss := by
                have := HS.out
                rw [← this.2]
                exact setv_none (by simpa using this.1) v
              rw [hyx] at h4
              have hsb4 := hc4.heap hsb (fun x => x.2 rfl)
              clear hsb h3 hc4 hyx
              obtain ⟨e1, e2, e3⟩ := SC.out w4 hsb4
              obtain ⟨x, hx⟩ : ∃ x, (cellv xss id i).getD 0 = x := ⟨_, rfl⟩
              obtain ⟨ok, hok⟩ : ∃ ok, (cellv xss id i).isSome = ok := ⟨_, rfl⟩
              obtain ⟨T, hT⟩ : ∃ T, total xss = T := ⟨_, rfl⟩
              obtain ⟨n, hn⟩ : ∃ n : Int, (lenv xss id : Int) = n := ⟨_, rfl⟩
              have HX := Lib.hid (And.intro hx hok)
              have HT := Lib.hid hT
              have HN := Lib.hid hn
              clear hx hok hT hn
              have CUa : Hid (∀ m : Nat, Calls Try.prog 17 #[.pointer (some ⟨ga, 0, none⟩)] (w4.drewN m) fun e w' => e = .returned (.int .i64 T) ∧ w' = w4.drewN m) := Lib.hid fun m => (h4.drewN m).usedA T HT.out
              have CUb : Hid (∀ m : Nat, Calls Try.prog 17 #[.pointer (some ⟨gb, 0, none⟩)] (w4.drewN m) fun e w' => e = .returned (.int .i64 T) ∧ w' = w4.drewN m) := Lib.hid fun m => (h4.symm.drewN m).usedA T HT.out
              have CLa : Hid (∀ m : Nat, Calls Try.prog 19 #[.pointer (some ⟨ga, 0, none⟩), .int .i64 id] (w4.drewN m) fun e w' => e = .returned (.int .i64 n) ∧ w' = w4.drewN m) := Lib.hid fun m => (h4.drewN m).lenA id n HN.out
              have CLb : Hid (∀ m : Nat, Calls Try.prog 19 #[.pointer (some ⟨gb, 0, none⟩), .int .i64 id] (w4.drewN m) fun e w' => e = .returned (.int .i64 n) ∧ w' = w4.drewN m) := Lib.hid fun m => (h4.symm.drewN m).lenA id n HN.out
              go_wp2_with fail
              refine (h4.getA id i x ok HX.out).mono ?_; rintro e w9 ⟨rfl, rfl⟩
              go_wp2_with fail
              refine (h4.symm.getA id i x ok HX.out).mono ?_; rintro e w9 ⟨rfl, rfl⟩
              go_wp2_with fail
              go_quiet ((first | (go_at_call 17; first | exact Calls.quiet_of_same (CUa.out _) | exact Calls.quiet_of_same (CUb.out _)) | (go_at_call 19; first | exact Calls.quiet_of_same (CLa.out _) | exact Calls.quiet_of_same (CLb.out _))))
              go_wp2_with fail
              go_roundg (149 - j)
              case measure => have := HK.out; omega
              case rel => exact ⟨j + 1, xss, by omega, by omega, by omega, by go_num, (h4.drewN nq).free⟩
            | true =>
              have HS := Lib.hid (And.intro hok0 hy)
              clear hok0 hy
              refine (h3.setA id i v true y HS.out).mono ?_; rintro e w4 ⟨rfl, h4, hc4⟩
              have hsb4 := hc4.heap hsb (fun x => x.2 rfl)
              obtain ⟨e1', e2', e3'⟩ := SC.out _ hsb4
              clear hsb h3 hc4
              go_wp2_with fail
              refine (h4.setB id i v true y HS.out).mono ?_; rintro e w5 ⟨rfl, h5, hc5⟩
              have hsb5 := hc5.heap hsb4 (fun x => x.2 rfl)
              clear e1' e2' e3' hsb4 h4 hc5
              obtain ⟨e1, e2, e3⟩ := SC.out w5 hsb5
              obtain ⟨x, hx⟩ : ∃ x, (cellv y id i).getD 0 = x := ⟨_, rfl⟩
              obtain ⟨ok, hok⟩ : ∃ ok, (cellv y id i).isSome = ok := ⟨_, rfl⟩
              obtain ⟨T, hT⟩ : ∃ T, total y = T := ⟨_, rfl⟩
              obtain ⟨n, hn⟩ : ∃ n : Int, (lenv y id : Int) = n := ⟨_, rfl⟩
              have HX := Lib.hid (And.intro hx hok)
              have HT := Lib.hid hT
              have HN := Lib.hid hn
              clear hx hok hT hn
              have CUa : Hid (∀ m : Nat, Calls Try.prog 17 #[.pointer (some ⟨ga, 0, none⟩)] (w5.drewN m) fun e w' => e = .returned (.int .i64 T) ∧ w' = w5.drewN m) := Lib.hid fun m => (h5.drewN m).usedA T HT.out
              have CUb : Hid (∀ m : Nat, Calls Try.prog 17 #[.pointer (some ⟨gb, 0, none⟩)] (w5.drewN m) fun e w' => e = .returned (.int .i64 T) ∧ w' = w5.drewN m) := Lib.hid fun m => (h5.symm.drewN m).usedA T HT.out
              have CLa : Hid (∀ m : Nat, Calls Try.prog 19 #[.pointer (some ⟨ga, 0, none⟩), .int .i64 id] (w5.drewN m) fun e w' => e = .returned (.int .i64 n) ∧ w' = w5.drewN m) := Lib.hid fun m => (h5.drewN m).lenA id n HN.out
              have CLb : Hid (∀ m : Nat, Calls Try.prog 19 #[.pointer (some ⟨gb, 0, none⟩), .int .i64 id] (w5.drewN m) fun e w' => e = .returned (.int .i64 n) ∧ w' = w5.drewN m) := Lib.hid fun m => (h5.symm.drewN m).lenA id n HN.out
              go_wp2_with fail
              refine (h5.getA id i x ok HX.out).mono ?_; rintro e w9 ⟨rfl, rfl⟩
              go_wp2_with fail
              refine (h5.symm.getA id i x ok HX.out).mono ?_; rintro e w9 ⟨rfl, rfl⟩
              go_wp2_with fail
              go_quiet ((first | (go_at_call 17; first | exact Calls.quiet_of_same (CUa.out _) | exact Calls.quiet_of_same (CUb.out _)) | (go_at_call 19; first | exact Calls.quiet_of_same (CLa.out _) | exact Calls.quiet_of_same (CLb.out _))))
              go_wp2_with fail
              go_roundg (149 - j)
              case measure => have := HK.out; omega
              case rel => exact ⟨j + 1, y, by omega, by omega, by omega, by go_num, (h5.drewN nq).free⟩
        · generalize (wr.alloc (.cells #[.int .i64 kd, .int .i64 id, .int .i64 i, .int .i64 v] 32)) = wa at *
          have e1 : True := trivial
          obtain ⟨e1, e2, e3⟩ := SC.out wa hsb
          obtain ⟨x, hx⟩ : ∃ x, (cellv xss id i).getD 0 = x := ⟨_, rfl⟩
          obtain ⟨ok, hok⟩ : ∃ ok, (cellv xss id i).isSome = ok := ⟨_, rfl⟩
          obtain ⟨T, hT⟩ : ∃ T, total xss = T := ⟨_, rfl⟩
          obtain ⟨n, hn⟩ : ∃ n : Int, (lenv xss id : Int) = n := ⟨_, rfl⟩
          have HX := Lib.hid (And.intro hx hok)
          have HT := Lib.hid hT
          have HN := Lib.hid hn
          clear hx hok hT hn
          have CUa : Hid (∀ m : Nat, Calls Try.prog 17 #[.pointer (some ⟨ga, 0, none⟩)] (wa.drewN m) fun e w' => e = .returned (.int .i64 T) ∧ w' = wa.drewN m) := Lib.hid fun m => (h3.drewN m).usedA T HT.out
          have CUb : Hid (∀ m : Nat, Calls Try.prog 17 #[.pointer (some ⟨gb, 0, none⟩)] (wa.drewN m) fun e w' => e = .returned (.int .i64 T) ∧ w' = wa.drewN m) := Lib.hid fun m => (h3.symm.drewN m).usedA T HT.out
          have CLa : Hid (∀ m : Nat, Calls Try.prog 19 #[.pointer (some ⟨ga, 0, none⟩), .int .i64 id] (wa.drewN m) fun e w' => e = .returned (.int .i64 n) ∧ w' = wa.drewN m) := Lib.hid fun m => (h3.drewN m).lenA id n HN.out
          have CLb : Hid (∀ m : Nat, Calls Try.prog 19 #[.pointer (some ⟨gb, 0, none⟩), .int .i64 id] (wa.drewN m) fun e w' => e = .returned (.int .i64 n) ∧ w' = wa.drewN m) := Lib.hid fun m => (h3.symm.drewN m).lenA id n HN.out
          go_wp2_with fail
          refine (h3.getA id i x ok HX.out).mono ?_; rintro e w9 ⟨rfl, rfl⟩
          go_wp2_with fail
          refine (h3.symm.getA id i x ok HX.out).mono ?_; rintro e w9 ⟨rfl, rfl⟩
          go_wp2_with fail
          go_quiet ((first | (go_at_call 17; first | exact Calls.quiet_of_same (CUa.out _) | exact Calls.quiet_of_same (CUb.out _)) | (go_at_call 19; first | exact Calls.quiet_of_same (CLa.out _) | exact Calls.quiet_of_same (CLb.out _))))
          go_wp2_with fail
          go_roundg (149 - j)
          case measure => have := HK.out; omega
          case rel => exact ⟨j + 1, xss, by omega, by omega, by omega, by go_num, (h3.drewN nq).free⟩
      · go_wp2_with fail
        go_ret
        exact ⟨rfl, h2.bel⟩
    · go_wp2_with fail
      go_ret
      exact ⟨rfl, h2.bel⟩

theorem heapAgain_walk (quota : Int) (A : Option Addr) (cap : Nat) (l : List Step) (w : World) (hq : (Lit.int .i64 quota).wf = true) (hr : rdStep.C w A l) (hl : l.length * 32 ≤ 140737488351232) :
    Calls Try.prog 7 #[.int .i64 quota, .slice A l.length cap] w fun e w' => e = .returned (.bool true) ∧ Below w.heap.size w w' := again_walk quota A cap l w hr hl
end Go.Proofs.Ytjoibhaohmifcaa
