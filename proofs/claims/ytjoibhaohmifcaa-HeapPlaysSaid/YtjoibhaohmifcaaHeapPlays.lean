/- HeapPlays: the walk of the law. -/
import Derived.Test.YtjoibhaohmifcaaHeapPair
import Derived.Test.YtjoibhaohmifcaaHeapStep
import Derived.Deep.LoopGhost
import Derived.Deep.QuietTactic
import Derived.BigQuiet
import Derived.Lib.Hide
namespace Go.Proofs.Ytjoibhaohmifcaa
set_option linter.unusedVariables false
set_option linter.unusedSimpArgs false
open Go.RowKit Go.Deep

def PRel (w0 : World) (ga gb len : Nat) (q : Int) (k : Nat) (i : Value) (wr : World) : Prop :=
  ∃ (j : Nat) (xss : List (List Int)) (puts : List PutR), j ≤ len ∧ j ≤ 200 ∧ k = 200 - j ∧ i = .int .i64 j ∧ Hid (Agr xss puts) ∧ Hid (puts.length ≤ j) ∧ Pl w0 wr (fun _ => False) ga gb q xss (szs xss) puts

set_option maxHeartbeats 8000000 in
set_option maxRecDepth 100000 in
theorem plays_walk (quota : Int) (A : Option Addr) (cap : Nat) (l : List Step) (w : World) (hr : rdStep.C w A l) (hl : l.length * 32 ≤ 140737488351232) :
    Calls Try.prog 3 #[.int .i64 quota, .slice A l.length cap] w fun e w' => e = .returned (.bool true) ∧ Below w.heap.size w w' := by
  suffices hs : ∀ w0, w0 = w → ∀ len, len = l.length → Calls Try.prog 3 #[.int .i64 quota, .slice A len cap] w fun e w' => e = .returned (.bool true) ∧ Below w0.heap.size w0 w' from hs w rfl _ rfl
  intro w0 hw0 len hlen
  have HR := Lib.hid hr
  have HW := Lib.hid hw0
  have HL := Lib.hid hlen
  have hlm : len ≤ 9223372036854775807 := by omega
  clear hr hw0 hl hlen
  go_enter Try.func3, Try.ntmps3
  go_wp2_with fail
  refine (shown_any _).mono ?_; rintro e w1 ⟨rfl, hb1⟩
  have HB1 : Hid (Below w0.heap.size w0 w1) := by rw [HW.out]; exact hb1
  clear hb1
  go_wp2_with fail
  refine (HB.new HB1.out quota (clampq quota) rfl).mono ?_
  rintro e w2 ⟨ga, rfl, hA⟩
  have h2 := Pl.of_HB rfl hA
  clear hA
  go_wp2_with fail
  generalize w2.heap.size = gb at *
  go_loopg [8] 200 (fun k i wr => PRel w0 ga gb len quota k i wr)
  case atStart => exact ⟨0, [], [], by omega, by omega, rfl, rfl, Lib.hid ⟨fun id i x h => by unfold cellv at h; split at h <;> simp at h, fun p hp => by simp at hp⟩, Lib.hid (by simp), h2⟩
  case round =>
    clear h2
    obtain ⟨j, xss, puts, hj1, hj2, hk, rfl, HAG, HPL, h2⟩ := hrel
    have HK := Lib.hid hk
    clear hk
    by_cases hlt : j < len
    · by_cases h150 : j < 200
      · obtain ⟨b, off, s, rfl, hs, hbl, wf0, wf1, wf2, wf3, hc⟩ := step_cells HR.out j (by rw [← HL.out]; exact hlt)
        obtain ⟨c0, c1, c2, c3⟩ := hc w0 wr HW.out h2.bel
        clear hc hs wf0 wf1 wf2 wf3
        obtain ⟨kd, id, i, v⟩ := s
        simp only at c0 c1 c2 c3
        have HOK := Lib.hid h2.ok
        have h3 : Pl w0 (wr.alloc (.cells #[.int .i64 kd, .int .i64 id, .int .i64 i, .int .i64 v] 32)) (fun k => k = wr.heap.size) ga gb quota xss (szs xss) puts := h2.chg ((Chg.refl _ _).alloc _) wr.heap.size (Nat.le_refl _) (by simp)
        have hsb : (wr.alloc (.cells #[.int .i64 kd, .int .i64 id, .int .i64 i, .int .i64 v] 32)).heap[wr.heap.size]? = some (.cells #[.int .i64 kd, .int .i64 id, .int .i64 i, .int .i64 v] 32 (0, 0)) := heap_new _ _
        have SC : ∀ wx : World, wx.heap[wr.heap.size]? = some (.cells #[.int .i64 kd, .int .i64 id, .int .i64 i, .int .i64 v] 32 (0, 0)) → wx.cell? ⟨wr.heap.size, 1, none⟩ = some (.int .i64 id) ∧ wx.cell? ⟨wr.heap.size, 2, none⟩ = some (.int .i64 i) ∧ wx.cell? ⟨wr.heap.size, 3, none⟩ = some (.int .i64 v) :=
          fun wx hx => ⟨cell_of_block hx 1, cell_of_block hx 2, cell_of_block hx 3⟩
        have SC := Lib.hid SC
        go_wp2_with fail
        · obtain ⟨_, e2, _⟩ := SC.out _ hsb
          generalize (wr.alloc (.cells #[.int .i64 kd, .int .i64 id, .int .i64 i, .int .i64 v] 32)) = wa at *
          have hcs : (∃ y, makev (clampq quota) xss i = ((xss.length : Int), 0, y)) ∨ makev (clampq quota) xss i = (0, 1, xss) ∨ makev (clampq quota) xss i = (0, 9, xss) := by
            unfold makev
            by_cases p1 : i < 1 ∨ 4096 < i
            · rw [if_pos p1]; exact .inr (.inl rfl)
            · rw [if_neg p1]
              by_cases p2 : clampq quota - total xss < i
              · rw [if_pos p2]; exact .inr (.inr rfl)
              · rw [if_neg p2]; exact .inl ⟨_, rfl⟩
          rcases hcs with ⟨y, hm⟩ | hm | hm
          · have HM := Lib.hid hm
            clear hm
            refine (h3.makeA i _ 0 y HM.out).mono ?_; rintro e w4 ⟨rfl, h4, hc4⟩
            have hsb4 := hc4.heap hsb (fun x => x.2 rfl)
            obtain ⟨_, e2', _⟩ := SC.out _ hsb4
            clear e2 hsb h3 hc4
            go_wp2_with fail
            refine (h4.makeB HOK.out i _ 0 HM.out).mono ?_; rintro e w5 ⟨rfl, h5, hc5⟩
            have hsb5 := hc5.heap hsb4 (fun x => x.2 rfl)
            clear e2' hsb4 h4 hc5
            go_wp2_with fail
            obtain ⟨e1, e2, e3⟩ := SC.out w5 hsb5
            obtain ⟨T, hT⟩ : ∃ T, total y = T := ⟨_, rfl⟩
            obtain ⟨n, hn⟩ : ∃ n : Int, (lenv y id : Int) = n := ⟨_, rfl⟩
            have HT := Lib.hid hT
            have HN := Lib.hid hn
            clear hT hn
            have CUa : Hid (∀ m : Nat, Calls Try.prog 17 #[.pointer (some ⟨ga, 0, none⟩)] (w5.drewN m) fun e w' => e = .returned (.int .i64 T) ∧ w' = w5.drewN m) := Lib.hid fun m => (h5.drewN m).usedA T HT.out
            have CUb : Hid (∀ m : Nat, Calls Try.prog 18 #[.pointer (some ⟨gb, 0, none⟩)] (w5.drewN m) fun e w' => e = .returned (.int .i64 T) ∧ w' = w5.drewN m) := Lib.hid fun m => (h5.drewN m).usedB T HT.out
            have CLa : Hid (∀ m : Nat, Calls Try.prog 19 #[.pointer (some ⟨ga, 0, none⟩), .int .i64 id] (w5.drewN m) fun e w' => e = .returned (.int .i64 n) ∧ w' = w5.drewN m) := Lib.hid fun m => (h5.drewN m).lenA id n HN.out
            have CLb : Hid (∀ m : Nat, Calls Try.prog 20 #[.pointer (some ⟨gb, 0, none⟩), .int .i64 id] (w5.drewN m) fun e w' => e = .returned (.int .i64 n) ∧ w' = w5.drewN m) := Lib.hid fun m => (h5.drewN m).lenB id n HN.out
            go_wp2_with fail
            go_quiet ((first | (go_at_call 17; exact Calls.quiet_of_same (CUa.out _)) | (go_at_call 18; exact Calls.quiet_of_same (CUb.out _)) | (go_at_call 19; exact Calls.quiet_of_same (CLa.out _)) | (go_at_call 20; exact Calls.quiet_of_same (CLb.out _))))
            go_wp2_with fail
            go_roundg (199 - j)
            case measure => have := HK.out; omega
            case rel => exact ⟨j + 1, y, puts, by omega, by omega, by omega, by go_num, Lib.hid (HAG.out.make HM.out), Lib.hid (by have := HPL.out; omega), (h5.drewN nq).free⟩
          · have HM := Lib.hid hm
            clear hm
            refine (h3.makeA i _ 1 xss HM.out).mono ?_; rintro e w4 ⟨rfl, h4, hc4⟩
            have hsb4 := hc4.heap hsb (fun x => x.2 rfl)
            obtain ⟨_, e2', _⟩ := SC.out _ hsb4
            clear e2 hsb h3 hc4
            go_wp2_with fail
            refine (h4.makeB HOK.out i _ 1 HM.out).mono ?_; rintro e w5 ⟨rfl, h5, hc5⟩
            have hsb5 := hc5.heap hsb4 (fun x => x.2 rfl)
            clear e2' hsb4 h4 hc5
            go_wp2_with fail
            obtain ⟨e1, e2, e3⟩ := SC.out w5 hsb5
            obtain ⟨T, hT⟩ : ∃ T, total xss = T := ⟨_, rfl⟩
            obtain ⟨n, hn⟩ : ∃ n : Int, (lenv xss id : Int) = n := ⟨_, rfl⟩
            have HT := Lib.hid hT
            have HN := Lib.hid hn
            clear hT hn
            have CUa : Hid (∀ m : Nat, Calls Try.prog 17 #[.pointer (some ⟨ga, 0, none⟩)] (w5.drewN m) fun e w' => e = .returned (.int .i64 T) ∧ w' = w5.drewN m) := Lib.hid fun m => (h5.drewN m).usedA T HT.out
            have CUb : Hid (∀ m : Nat, Calls Try.prog 18 #[.pointer (some ⟨gb, 0, none⟩)] (w5.drewN m) fun e w' => e = .returned (.int .i64 T) ∧ w' = w5.drewN m) := Lib.hid fun m => (h5.drewN m).usedB T HT.out
            have CLa : Hid (∀ m : Nat, Calls Try.prog 19 #[.pointer (some ⟨ga, 0, none⟩), .int .i64 id] (w5.drewN m) fun e w' => e = .returned (.int .i64 n) ∧ w' = w5.drewN m) := Lib.hid fun m => (h5.drewN m).lenA id n HN.out
            have CLb : Hid (∀ m : Nat, Calls Try.prog 20 #[.pointer (some ⟨gb, 0, none⟩), .int .i64 id] (w5.drewN m) fun e w' => e = .returned (.int .i64 n) ∧ w' = w5.drewN m) := Lib.hid fun m => (h5.drewN m).lenB id n HN.out
            go_wp2_with fail
            go_quiet ((first | (go_at_call 17; exact Calls.quiet_of_same (CUa.out _)) | (go_at_call 18; exact Calls.quiet_of_same (CUb.out _)) | (go_at_call 19; exact Calls.quiet_of_same (CLa.out _)) | (go_at_call 20; exact Calls.quiet_of_same (CLb.out _))))
            go_wp2_with fail
            go_roundg (199 - j)
            case measure => have := HK.out; omega
            case rel => exact ⟨j + 1, xss, puts, by omega, by omega, by omega, by go_num, Lib.hid (HAG.out.make HM.out), Lib.hid (by have := HPL.out; omega), (h5.drewN nq).free⟩
          · have HM := Lib.hid hm
            clear hm
            refine (h3.makeA i _ 9 xss HM.out).mono ?_; rintro e w4 ⟨rfl, h4, hc4⟩
            have hsb4 := hc4.heap hsb (fun x => x.2 rfl)
            obtain ⟨_, e2', _⟩ := SC.out _ hsb4
            clear e2 hsb h3 hc4
            go_wp2_with fail
            refine (h4.makeB HOK.out i _ 9 HM.out).mono ?_; rintro e w5 ⟨rfl, h5, hc5⟩
            have hsb5 := hc5.heap hsb4 (fun x => x.2 rfl)
            clear e2' hsb4 h4 hc5
            go_wp2_with fail
            obtain ⟨e1, e2, e3⟩ := SC.out w5 hsb5
            obtain ⟨T, hT⟩ : ∃ T, total xss = T := ⟨_, rfl⟩
            obtain ⟨n, hn⟩ : ∃ n : Int, (lenv xss id : Int) = n := ⟨_, rfl⟩
            have HT := Lib.hid hT
            have HN := Lib.hid hn
            clear hT hn
            have CUa : Hid (∀ m : Nat, Calls Try.prog 17 #[.pointer (some ⟨ga, 0, none⟩)] (w5.drewN m) fun e w' => e = .returned (.int .i64 T) ∧ w' = w5.drewN m) := Lib.hid fun m => (h5.drewN m).usedA T HT.out
            have CUb : Hid (∀ m : Nat, Calls Try.prog 18 #[.pointer (some ⟨gb, 0, none⟩)] (w5.drewN m) fun e w' => e = .returned (.int .i64 T) ∧ w' = w5.drewN m) := Lib.hid fun m => (h5.drewN m).usedB T HT.out
            have CLa : Hid (∀ m : Nat, Calls Try.prog 19 #[.pointer (some ⟨ga, 0, none⟩), .int .i64 id] (w5.drewN m) fun e w' => e = .returned (.int .i64 n) ∧ w' = w5.drewN m) := Lib.hid fun m => (h5.drewN m).lenA id n HN.out
            have CLb : Hid (∀ m : Nat, Calls Try.prog 20 #[.pointer (some ⟨gb, 0, none⟩), .int .i64 id] (w5.drewN m) fun e w' => e = .returned (.int .i64 n) ∧ w' = w5.drewN m) := Lib.hid fun m => (h5.drewN m).lenB id n HN.out
            go_wp2_with fail
            go_quiet ((first | (go_at_call 17; exact Calls.quiet_of_same (CUa.out _)) | (go_at_call 18; exact Calls.quiet_of_same (CUb.out _)) | (go_at_call 19; exact Calls.quiet_of_same (CLa.out _)) | (go_at_call 20; exact Calls.quiet_of_same (CLb.out _))))
            go_wp2_with fail
            go_roundg (199 - j)
            case measure => have := HK.out; omega
            case rel => exact ⟨j + 1, xss, puts, by omega, by omega, by omega, by go_num, Lib.hid (HAG.out.make HM.out), Lib.hid (by have := HPL.out; omega), (h5.drewN nq).free⟩
        iterate 2
          · obtain ⟨e1, e2, e3⟩ := SC.out _ hsb
            generalize (wr.alloc (.cells #[.int .i64 kd, .int .i64 id, .int .i64 i, .int .i64 v] 32)) = wa at *
            go_wp2_with fail
            obtain ⟨y, hy⟩ : ∃ y, setv xss id i v = y := ⟨_, rfl⟩
            obtain ⟨bs, hbs⟩ : ∃ bs, (cellv xss id i).isSome = bs := ⟨_, rfl⟩
            have HS := Lib.hid (And.intro hbs hy)
            clear hbs hy e1 e2 e3
            have h3' : Pl w0 wa.drew (fun k => k = wr.heap.size) ga gb quota xss (szs xss) puts := h3.drewN 1
            have hS0 : wa.drew.heap[wr.heap.size]? = some (.cells #[.int .i64 kd, .int .i64 id, .int .i64 i, .int .i64 v] 32 (0, 0)) := hsb
            refine wp_region_ord (S := fun w' => w'.heap[wr.heap.size]? = some (.cells #[.int .i64 kd, .int .i64 id, .int .i64 i, .int .i64 v] 32 (0, 0))) (N := fun i => true) (by kernel_rfl) [(0, true), (1, true), (2, true), (3, true), (4, true), (5, true), (6, true), (8, true), (9, true), (10, true), (11, true), (12, true), (13, true), (14, true), (7, false), (15, false), (16, true), (17, false)] (by kernel_rfl) ?_
            iterate 14 (refine ord_look rfl hS0 rfl (by intro w hS; obtain ⟨e1, e2, e3⟩ := SC.out w hS; go_simp; with_reducible rfl) (fun c a w h => h) ?_; simp only [Act.put, List.setIfInBounds_toArray, List.set_cons_succ, List.set_cons_zero])
            refine ord_act rfl rfl (fun K hK => ?_)
            refine wp_call 13 _ _ Try.func13 rfl (by kernel_rfl) _ _ rfl #[.pointer (some ⟨ga, 0, none⟩), .int .i64 id, .int .i64 i, .int .i64 v] (by simp [Act.eval]) (R := fun x w1 => x = .bool bs ∧ Pl w0 w1 (fun k => k = wr.heap.size) ga gb quota y (szs xss) puts ∧ Chg (fun k => w0.heap.size ≤ k ∧ ¬ k = wr.heap.size) wa.drew w1) (calls_ret (h3'.setA id i v bs y HS.out) (by rintro e w1 ⟨rfl, h⟩; exact ⟨_, rfl, rfl, h⟩)) ?_
            rintro x w4 ⟨rfl, h4, hc4⟩
            have hsb4 := hc4.heap hS0 (fun x => x.2 rfl)
            refine hK _ _ ⟨fun _ => hsb4, ?_⟩
            clear hK K h3' hS0 hc4 h3 hsb
            simp only [Act.put, List.setIfInBounds_toArray, List.set_cons_succ, List.set_cons_zero]
            refine ord_act rfl rfl (fun K hK => ?_)
            refine wp_call 14 _ _ Try.func14 rfl (by kernel_rfl) _ _ rfl #[.pointer (some ⟨gb, 0, none⟩), .int .i64 id, .int .i64 i, .int .i64 v] (by simp [Act.eval]) (R := fun x w1 => x = .bool bs ∧ ∃ puts', puts'.length ≤ puts.length + 1 ∧ Agr y puts' ∧ Pl w0 w1 (fun k => k = wr.heap.size) ga gb quota y (szs y) puts' ∧ Chg (fun k => w0.heap.size ≤ k ∧ ¬ k = wr.heap.size) w4 w1) (calls_ret (h4.setB HOK.out HAG.out (by have := HPL.out; omega) id i v bs HS.out) (by rintro e w1 ⟨rfl, h⟩; exact ⟨_, rfl, rfl, h⟩)) ?_
            rintro x w5 ⟨rfl, puts', hpl, hag, h5, hc5⟩
            have HPL' : Hid (puts'.length ≤ j + 1) := Lib.hid (by have := HPL.out; omega)
            have HAG' := Lib.hid hag
            clear hpl hag
            have hsb5 := hc5.heap hsb4 (fun x => x.2 rfl)
            refine hK _ _ ⟨fun _ => hsb5, ?_⟩
            clear hK K hsb4 hc5 h4
            simp only [Act.put, List.setIfInBounds_toArray, List.set_cons_succ, List.set_cons_zero]
            refine ord_look rfl hsb5 rfl (by intro w hS; go_simp; with_reducible rfl) (fun c a w h => h) ?_; simp only [Act.put, List.setIfInBounds_toArray, List.set_cons_succ, List.set_cons_zero]
            refine ord_act rfl rfl (fun K hK => ?_)
            go_simp
            refine hK _ _ ⟨fun _ => hsb5, ?_⟩
            clear hK K
            refine ord_end ?_
            go_wp2_with fail
            obtain ⟨e1, e2, e3⟩ := SC.out w5 hsb5
            obtain ⟨T, hT⟩ : ∃ T, total y = T := ⟨_, rfl⟩
            obtain ⟨n, hn⟩ : ∃ n : Int, (lenv y id : Int) = n := ⟨_, rfl⟩
            have HT := Lib.hid hT
            have HN := Lib.hid hn
            clear hT hn
            have CUa : Hid (∀ m : Nat, Calls Try.prog 17 #[.pointer (some ⟨ga, 0, none⟩)] (w5.drewN m) fun e w' => e = .returned (.int .i64 T) ∧ w' = w5.drewN m) := Lib.hid fun m => (h5.drewN m).usedA T HT.out
            have CUb : Hid (∀ m : Nat, Calls Try.prog 18 #[.pointer (some ⟨gb, 0, none⟩)] (w5.drewN m) fun e w' => e = .returned (.int .i64 T) ∧ w' = w5.drewN m) := Lib.hid fun m => (h5.drewN m).usedB T HT.out
            have CLa : Hid (∀ m : Nat, Calls Try.prog 19 #[.pointer (some ⟨ga, 0, none⟩), .int .i64 id] (w5.drewN m) fun e w' => e = .returned (.int .i64 n) ∧ w' = w5.drewN m) := Lib.hid fun m => (h5.drewN m).lenA id n HN.out
            have CLb : Hid (∀ m : Nat, Calls Try.prog 20 #[.pointer (some ⟨gb, 0, none⟩), .int .i64 id] (w5.drewN m) fun e w' => e = .returned (.int .i64 n) ∧ w' = w5.drewN m) := Lib.hid fun m => (h5.drewN m).lenB id n HN.out
            go_wp2_with fail
            go_quiet ((first | (go_at_call 17; exact Calls.quiet_of_same (CUa.out _)) | (go_at_call 18; exact Calls.quiet_of_same (CUb.out _)) | (go_at_call 19; exact Calls.quiet_of_same (CLa.out _)) | (go_at_call 20; exact Calls.quiet_of_same (CLb.out _))))
            go_wp2_with fail
            go_roundg (199 - j)
            case measure => have := HK.out; omega
            case rel => exact ⟨j + 1, y, puts', by omega, by omega, by omega, by go_num, Lib.hid HAG'.out, Lib.hid (by have := HPL'.out; omega), (h5.drewN nq).free⟩

        iterate 2
          · obtain ⟨e1, e2, e3⟩ := SC.out _ hsb
            generalize (wr.alloc (.cells #[.int .i64 kd, .int .i64 id, .int .i64 i, .int .i64 v] 32)) = wa at *
            go_wp2_with fail
            obtain ⟨x, hx⟩ : ∃ x, (cellv xss id i).getD 0 = x := ⟨_, rfl⟩
            obtain ⟨ok, hok⟩ : ∃ ok, (cellv xss id i).isSome = ok := ⟨_, rfl⟩
            have HX := Lib.hid (And.intro hx hok)
            clear hx hok
            refine (h3.getA id i x ok HX.out).mono ?_; rintro e w9 ⟨rfl, rfl⟩
            go_wp2_with fail
            refine (h3.getB HAG.out id i x ok HX.out).mono ?_; rintro e w5 ⟨rfl, h5, hc5⟩
            have hsb5 := hc5.heap hsb (fun x => x.2 rfl)
            clear e1 e2 e3 hsb h3 hc5
            go_wp2_with fail
            obtain ⟨e1, e2, e3⟩ := SC.out w5 hsb5
            obtain ⟨T, hT⟩ : ∃ T, total xss = T := ⟨_, rfl⟩
            obtain ⟨n, hn⟩ : ∃ n : Int, (lenv xss id : Int) = n := ⟨_, rfl⟩
            have HT := Lib.hid hT
            have HN := Lib.hid hn
            clear hT hn
            have CUa : Hid (∀ m : Nat, Calls Try.prog 17 #[.pointer (some ⟨ga, 0, none⟩)] (w5.drewN m) fun e w' => e = .returned (.int .i64 T) ∧ w' = w5.drewN m) := Lib.hid fun m => (h5.drewN m).usedA T HT.out
            have CUb : Hid (∀ m : Nat, Calls Try.prog 18 #[.pointer (some ⟨gb, 0, none⟩)] (w5.drewN m) fun e w' => e = .returned (.int .i64 T) ∧ w' = w5.drewN m) := Lib.hid fun m => (h5.drewN m).usedB T HT.out
            have CLa : Hid (∀ m : Nat, Calls Try.prog 19 #[.pointer (some ⟨ga, 0, none⟩), .int .i64 id] (w5.drewN m) fun e w' => e = .returned (.int .i64 n) ∧ w' = w5.drewN m) := Lib.hid fun m => (h5.drewN m).lenA id n HN.out
            have CLb : Hid (∀ m : Nat, Calls Try.prog 20 #[.pointer (some ⟨gb, 0, none⟩), .int .i64 id] (w5.drewN m) fun e w' => e = .returned (.int .i64 n) ∧ w' = w5.drewN m) := Lib.hid fun m => (h5.drewN m).lenB id n HN.out
            go_wp2_with fail
            go_quiet ((first | (go_at_call 17; exact Calls.quiet_of_same (CUa.out _)) | (go_at_call 18; exact Calls.quiet_of_same (CUb.out _)) | (go_at_call 19; exact Calls.quiet_of_same (CLa.out _)) | (go_at_call 20; exact Calls.quiet_of_same (CLb.out _))))
            go_wp2_with fail
            go_roundg (199 - j)
            case measure => have := HK.out; omega
            case rel => exact ⟨j + 1, xss, puts, by omega, by omega, by omega, by go_num, Lib.hid HAG.out, Lib.hid (by have := HPL.out; omega), (h5.drewN nq).free⟩
        · generalize (wr.alloc (.cells #[.int .i64 kd, .int .i64 id, .int .i64 i, .int .i64 v] 32)) = wa at *
          obtain ⟨e1, e2, e3⟩ := SC.out wa hsb
          obtain ⟨T, hT⟩ : ∃ T, total xss = T := ⟨_, rfl⟩
          obtain ⟨n, hn⟩ : ∃ n : Int, (lenv xss id : Int) = n := ⟨_, rfl⟩
          have HT := Lib.hid hT
          have HN := Lib.hid hn
          clear hT hn
          have CUa : Hid (∀ m : Nat, Calls Try.prog 17 #[.pointer (some ⟨ga, 0, none⟩)] (wa.drewN m) fun e w' => e = .returned (.int .i64 T) ∧ w' = wa.drewN m) := Lib.hid fun m => (h3.drewN m).usedA T HT.out
          have CUb : Hid (∀ m : Nat, Calls Try.prog 18 #[.pointer (some ⟨gb, 0, none⟩)] (wa.drewN m) fun e w' => e = .returned (.int .i64 T) ∧ w' = wa.drewN m) := Lib.hid fun m => (h3.drewN m).usedB T HT.out
          have CLa : Hid (∀ m : Nat, Calls Try.prog 19 #[.pointer (some ⟨ga, 0, none⟩), .int .i64 id] (wa.drewN m) fun e w' => e = .returned (.int .i64 n) ∧ w' = wa.drewN m) := Lib.hid fun m => (h3.drewN m).lenA id n HN.out
          have CLb : Hid (∀ m : Nat, Calls Try.prog 20 #[.pointer (some ⟨gb, 0, none⟩), .int .i64 id] (wa.drewN m) fun e w' => e = .returned (.int .i64 n) ∧ w' = wa.drewN m) := Lib.hid fun m => (h3.drewN m).lenB id n HN.out
          go_wp2_with fail
          go_quiet ((first | (go_at_call 17; exact Calls.quiet_of_same (CUa.out _)) | (go_at_call 18; exact Calls.quiet_of_same (CUb.out _)) | (go_at_call 19; exact Calls.quiet_of_same (CLa.out _)) | (go_at_call 20; exact Calls.quiet_of_same (CLb.out _))))
          go_wp2_with fail
          go_roundg (199 - j)
          case measure => have := HK.out; omega
          case rel => exact ⟨j + 1, xss, puts, by omega, by omega, by omega, by go_num, Lib.hid HAG.out, Lib.hid (by have := HPL.out; omega), (h3.drewN nq).free⟩
      · go_wp2_with fail
        go_ret
        exact ⟨rfl, h2.bel⟩
    · go_wp2_with fail
      go_ret
      exact ⟨rfl, h2.bel⟩

theorem heapPlays_walk (quota : Int) (A : Option Addr) (cap : Nat) (l : List Step) (w : World) (hq : (Lit.int .i64 quota).wf = true) (hr : rdStep.C w A l) (hl : l.length * 32 ≤ 140737488351232) :
    Calls Try.prog 3 #[.int .i64 quota, .slice A l.length cap] w fun e w' => e = .returned (.bool true) ∧ Below w.heap.size w w' := plays_walk quota A cap l w hr hl
end Go.Proofs.Ytjoibhaohmifcaa
