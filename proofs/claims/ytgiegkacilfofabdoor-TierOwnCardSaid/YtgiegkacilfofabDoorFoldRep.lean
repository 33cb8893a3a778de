/- fold: replace. -/
import Derived.Test.YtgiegkacilfofabDoorFoldRepl
import Derived.Test.YtgiegkacilfofabDoorFoldDo
namespace Go.Proofs.YtgiegkacilfofabDoor
set_option linter.unusedVariables false
set_option linter.unusedSimpArgs false
open Go.RowKit

/-- a place behind goes less -/
def fixA (at_ many m : Int) (x : InsR) : InsR := if jumpsv x = true ∧ at_ < x.a then { x with a := if x.a - many + m < at_ + m then at_ + m else x.a - many + m } else x
def replv (l : List InsR) (at_ many : Nat) (bs : List InsR) : List InsR := (repl l at_ (at_ + many) bs).map (fixA at_ many bs.length)
theorem fixA_wf {at_ many m : Int} {x : InsR} (h : WfI x) (h0 : 0 ≤ at_) (h1 : 0 ≤ m) (h2 : m ≤ 1) (h3 : m ≤ many) : WfI (fixA at_ many m x) := by
  unfold fixA
  split
  · rename_i hc
    obtain ⟨_, hc⟩ := hc
    obtain ⟨⟨h5, h6⟩⟩ := h
    refine ⟨?_⟩
    show In64 (if x.a - many + m < at_ + m then at_ + m else x.a - many + m)
    unfold In64
    split <;> omega
  · exact h
theorem insCells_set (l : List InsR) (j : Nat) (x : InsR) (a' : Int) (h : l[j]? = some x) : insCells (l.set j { x with a := a' }) = (insCells l).set (j * 3 + 1) (.int .i64 a') := by
  induction l generalizing j with
  | nil => simp at h
  | cons p l ih =>
    cases j with
    | zero =>
      simp at h
      subst h
      rfl
    | succ j =>
      have := ih j (by simpa using h)
      rw [List.set_cons_succ]
      show p.cells ++ insCells _ = (p.cells ++ insCells l).set _ _
      rw [this, show (j + 1) * 3 + 1 = p.cells.length + (j * 3 + 1) by show _ = 3 + _; omega, List.set_append_right _ _ (by omega)]
      congr 2
      omega
theorem set_same {α : Type} {l : List α} {j : Nat} {x : α} (h : l[j]? = some x) : l.set j x = l := by
  apply List.ext_getElem?
  intro k
  by_cases e : j = k
  · subst e
    rw [List.getElem?_set_self (List.getElem?_eq_some_iff.1 h).1, h]
  · rw [List.getElem?_set_ne e]
theorem step_set {α : Type} (R : List α) (f : α → α) (j : Nat) (hj : j < R.length) : (R.take (j + 1)).map f ++ R.drop (j + 1) = ((R.take j).map f ++ R.drop j).set j (f R[j]) := by
  have hl : ((R.take j).map f).length = j := by rw [List.length_map, List.length_take]; omega
  have hd : R.drop j = R[j] :: R.drop (j + 1) := (List.getElem_cons_drop hj).symm
  have hs : ((R.take j).map f ++ R.drop j).set j (f R[j]) = (R.take j).map f ++ (R.drop j).set 0 (f R[j]) := by
    have := List.set_append_right (s := (R.take j).map f) (t := R.drop j) j (f R[j]) (by omega)
    rw [this, hl, Nat.sub_self]
  rw [hs, hd, List.set_cons_zero, List.take_succ_eq_append_getElem hj, List.map_append]
  simp

set_option maxHeartbeats 4000000 in
set_option maxRecDepth 100000 in
theorem replace_any {w : World} {F : Nat} {V : Value} {l : List InsR} (at_ many : Nat) (bs : List InsR) (u : Value) (h : FoldIs w F V l) (hb1 : bs.length ≤ 1) (hb : bs.length < many) (hmany : many ≤ 100) (hj : at_ + many ≤ l.length) (hu : Src w u bs.length (insCells bs)) (hl : l.length ≤ 5864062014634)
    (hwl : ∀ x ∈ l, WfI x) (hwb : ∀ x ∈ bs, WfI x) :
    Calls Tryd.prog 72 #[.pointer (some ⟨F, 0, none⟩), .int .i64 at_, .int .i64 many, u] w fun e w' => e = .returned (.tuple #[]) ∧ ∃ V', FoldIs w' F V' (replv l at_ many bs) ∧ V'.ownBlock = V.ownBlock ∧ Chg (fun k => k = F ∨ V.ownBlock = some k) w w' := by
  have CR := Lib.hid (repl_any (w := w) at_ (at_ + many) bs u (by omega) hj h.row hu hl)
  have hwR : ∀ x ∈ repl l at_ (at_ + many) bs, WfI x := fun x hx => by
    unfold repl at hx
    rcases List.mem_append.1 hx with hx | hx
    · rcases List.mem_append.1 hx with hx | hx
      · exact hwl x (List.mem_of_mem_take hx)
      · exact hwb x hx
    · exact hwl x (List.mem_of_mem_drop hx)
  have hRl := repl_length l at_ (at_ + many) bs (by omega) hj
  have hrv : replv l at_ many bs = (repl l at_ (at_ + many) bs).map (fixA at_ many bs.length) := rfl
  rw [hrv]
  obtain ⟨R, hR⟩ : ∃ R, repl l at_ (at_ + many) bs = R := ⟨_, rfl⟩
  rw [hR] at CR hwR hRl ⊢
  clear hrv hR
  obtain ⟨m, hm⟩ : ∃ m, m = bs.length := ⟨_, rfl⟩
  obtain ⟨_, uA, uc, rfl⟩ := hu.bound
  obtain ⟨_, VA, vc, rfl⟩ := ownsRow_slice h.row
  obtain ⟨nl, hnl⟩ : ∃ nl, nl = l.length := ⟨_, rfl⟩
  have HF := Lib.hid h
  have HWR := Lib.hid hwR
  obtain ⟨n, hn⟩ : ∃ n, n = R.length := ⟨_, rfl⟩
  have hnb : n ≤ 5864062014634 := by omega
  have HN := Lib.hid hn
  rw [← hnl] at CR HF hj hl ⊢
  rw [← hm] at CR hb ⊢
  have c0 := cell_of_block HF.out.box 0
  have f0 := frozen_of_block HF.out.box 0
  simp at c0
  have HNE : Hid ((Value.slice VA nl vc).ownBlock ≠ some F) := Lib.hid HF.out.ne
  have HBX : Hid (w.heap[F]? = some (.cells #[.slice VA nl vc] 132 (0, 0))) := Lib.hid HF.out.box
  rw [show ((at_ + many : Nat) : Int) = (at_ : Int) + (many : Int) by omega] at CR
  clear h hu hwl hwb hwR hRl hm hnl hn HF
  go_enter Tryd.func72, Tryd.ntmps72
  go_wp2_with fail
  refine CR.out.mono ?_; rintro e w1 ⟨v1, rfl, ho1, how1, hc1⟩
  rw [← HN.out] at ho1
  obtain ⟨_, VA1, vc1, rfl⟩ := ownsRow_slice ho1
  have hb1 := hc1.heap HBX.out (fun e => HNE.out e)
  have d0 := cell_of_block hb1 0
  have g0 := frozen_of_block hb1 0
  simp at d0
  obtain ⟨w2, hw2⟩ : ∃ w2, w2 = w1.setCell ⟨F, 0, none⟩ (.slice VA1 n vc1) := ⟨_, rfl⟩
  have hb2 : w2.heap[F]? = some (.cells #[.slice VA1 n vc1] 132 (0, 0)) := by rw [hw2]; exact heap_set hb1 0 _
  have hne1 : (Value.slice VA1 n vc1).ownBlock ≠ some F := fun e => HNE.out (by rw [← how1]; exact e)
  have hc2 : Chg (fun k => k = F ∨ (Value.slice VA nl vc).ownBlock = some k) w w2 := by
    rw [hw2]
    exact (hc1.mono (fun _ _ e => .inr e)).setCell (fun _ => .inl rfl) _
  have ho2 : w2.ownsRow 0 44 3 (.slice VA1 n vc1) n (insCells R) := by rw [hw2]; exact ownsRow_kept ho1 (Chg.set_cell ⟨F, 0, none⟩ _) (fun k hk e => by subst e; exact hne1 hk)
  have HW2 := Lib.hid hw2
  have H2 := Lib.hid (And.intro hb2 (And.intro hne1 (And.intro hc2 how1)))
  have HO2 := Lib.hid ho2
  clear c0 f0 ho1 how1 hc1 hb1 hw2 hb2 hne1 hc2 ho2
  go_upto_region 1 with fail
  rw [← HW2.out]
  clear d0 g0
  have d0 := cell_of_block H2.out.1 0
  simp at d0
  go_wp2_with fail
  clear d0
  go_loopg [28] n (fun kk v wr => ∃ j : Nat, j ≤ n ∧ kk = n - j ∧ v = .int .i64 j ∧ Hid (wr.heap[F]? = some (.cells #[.slice VA1 n vc1] 132 (0, 0))) ∧ Hid (wr.ownsRow 0 44 3 (.slice VA1 n vc1) n (insCells ((R.take j).map (fixA at_ many m) ++ R.drop j))) ∧ Hid (Chg (fun k => (Value.slice VA1 n vc1).ownBlock = some k) w2 wr))
  case atStart => exact ⟨0, by omega, rfl, rfl, Lib.hid H2.out.1, HO2, Lib.hid (Chg.refl _ _)⟩
  case round =>
    clear HO2 CR HBX
    obtain ⟨j, hjn, hk, rfl, HB, HO, HC⟩ := hrel
    have HK := Lib.hid hk
    clear hk
    by_cases hlt : j < n
    · have hjR : j < R.length := by rw [← HN.out]; exact hlt
      have hst := step_set R (fixA at_ many m) j hjR
      obtain ⟨x, hx⟩ : ∃ x, R[j] = x := ⟨_, rfl⟩
      rw [hx] at hst
      have hwx := HWR.out x (by rw [← hx]; exact List.getElem_mem _)
      obtain ⟨lj, hlj⟩ : ∃ lj, (R.take j).map (fixA at_ many m) ++ R.drop j = lj := ⟨_, rfl⟩
      rw [hlj] at hst HO
      have hljl : lj.length = n := by rw [← hlj, List.length_append, List.length_map, List.length_take, List.length_drop]; have := HN.out; omega
      have hljx : lj[j]? = some x := by
        have hl : ((R.take j).map (fixA at_ many m)).length = j := by rw [List.length_map, List.length_take]; omega
        rw [← hlj, List.getElem?_append_right (by omega), hl, Nat.sub_self, List.getElem?_drop, Nat.add_zero, List.getElem?_eq_getElem hjR, hx]
      obtain ⟨g, cap, e, hgl, hcells⟩ := ownsRow_at HO.out (by omega)
      injection e with e1 e2 e3
      subst e1 e3
      have hljj : lj[j]'(by omega) = x := by
        have h := List.getElem?_eq_getElem (l := lj) (i := j) (by omega)
        rw [hljx] at h
        injection h with h
        exact h.symm
      obtain ⟨i0, i1, i2⟩ := insCells_get lj j (by omega)
      rw [hljj] at i0 i1 i2
      have c0 := hcells _ _ i0
      have c1 := hcells _ _ i1
      have c2 := hcells _ _ i2
      have hjc : n ≤ vc1 := by
        rcases HO.out.2 with ⟨e, _⟩ | ⟨_, _, _, e, _, _, h, _⟩
        · cases e
        · injection e with _ _ e; omega
      have d0 := cell_of_block HB.out 0
      simp at d0
      have hf : wr.frozen? ⟨g, j * 3 + 1, none⟩ = false := by
        rcases HO.out.2 with ⟨e, _⟩ | ⟨g', _, _, e, _, hh, _⟩
        · cases e
        · injection e with e _ _
          injection e with e
          injection e with e
          subst e
          exact frozen_of_block hh _
      have CJ := Lib.hid (fun w => jumps_any x w)
      obtain ⟨jv, hjv⟩ : ∃ jv, jumpsv x = jv := ⟨_, rfl⟩
      rw [hjv] at CJ
      obtain ⟨op, a, nn⟩ := x
      unfold InsR.agg at CJ
      simp only at CJ c0 c1 c2
      have hgF : ¬ g = F := fun e => H2.out.2.1 (by rw [← e]; rfl)
      have HST := Lib.hid hst
      have HLX := Lib.hid (And.intro hljx hjv)
      have HWX := Lib.hid hwx
      have HCL := Lib.hid (And.intro c0 (And.intro c1 c2))
      have hwa := hwx.a
      unfold In64 at hwa
      obtain ⟨hwa0, hwa1⟩ := hwa
      simp only at hwa0 hwa1
      clear hst hx hwx hlj hljx hljj i0 i1 i2 hcells hjv hjR hljl e2
      go_wp2_with fail
      refine CJ.out _ |>.mono ?_; rintro e w3 ⟨rfl, hb3⟩
      have HB3 := Lib.hid hb3
      have k1 := (Below.chg hb3).cell HCL.out.2.1 (fun x => x)
      have kf : w3.frozen? ⟨g, j * 3 + 1, none⟩ = false := ((Below.chg hb3).frozen (p := ⟨g, j * 3 + 1, none⟩) hgl (fun x => x)).trans hf
      have HB4 := Lib.hid ((Below.chg hb3).heap HB.out (fun x => x))
      have HO4 := Lib.hid (ownsRow_kept HO.out (Below.chg hb3) (fun _ _ x => x))
      have HC4 : Hid (Chg (fun k => (Value.slice (some ⟨g, 0, none⟩) n vc1).ownBlock = some k) w2 w3) := Lib.hid (HC.out.then ((Below.chg hb3).mono (fun _ _ x => x.elim)))
      clear c0 c1 c2 d0 hf hb3
      have hnof : ∀ (h : ¬ (jv = true ∧ (at_ : Int) < a)), fixA at_ many m ⟨op, a, nn⟩ = ⟨op, a, nn⟩ := fun h => by
        unfold fixA
        rw [if_neg (by rw [HLX.out.2]; exact h)]
      have hsame : ∀ (h : ¬ (jv = true ∧ (at_ : Int) < a)), (R.take (j + 1)).map (fixA at_ many m) ++ R.drop (j + 1) = lj := fun h => by
        rw [HST.out, hnof h]
        exact set_same HLX.out.1
      by_cases hcond : jv = true ∧ (at_ : Int) < a
      · obtain ⟨rfl, hlta⟩ := hcond
        obtain ⟨a', ha'⟩ : ∃ a', (if a - (many : Int) + (m : Int) < (at_ : Int) + (m : Int) then (at_ : Int) + (m : Int) else a - (many : Int) + (m : Int)) = a' := ⟨_, rfl⟩
        have hfx : fixA at_ many m ⟨op, a, nn⟩ = ⟨op, a', nn⟩ := by
          unfold fixA
          rw [if_pos ⟨HLX.out.2, hlta⟩, ← ha']
        have hnew : (w3.setCell ⟨g, j * 3 + 1, none⟩ (.int .i64 a')).ownsRow 0 44 3 (.slice (some ⟨g, 0, none⟩) n vc1) n (insCells ((R.take (j + 1)).map (fixA at_ many m) ++ R.drop (j + 1))) := by
          have h := ownsRow_set HO4.out (j * 3 + 1) (by omega) (.int .i64 a')
          rw [← insCells_set lj j ⟨op, a, nn⟩ a' HLX.out.1] at h
          rw [HST.out, hfx]
          exact h
        have HNEW := Lib.hid hnew
        have HBN : Hid ((w3.setCell ⟨g, j * 3 + 1, none⟩ (.int .i64 a')).heap[F]? = some (.cells #[.slice (some ⟨g, 0, none⟩) n vc1] 132 (0, 0))) := Lib.hid ((heap_set_ne _ (show F ≠ (⟨g, j * 3 + 1, none⟩ : Addr).block from fun e => hgF e.symm)).trans HB4.out)
        have HCN : Hid (Chg (fun k => (Value.slice (some ⟨g, 0, none⟩) n vc1).ownBlock = some k) w2 (w3.setCell ⟨g, j * 3 + 1, none⟩ (.int .i64 a'))) := Lib.hid (HC4.out.setCell (p := ⟨g, j * 3 + 1, none⟩) (fun _ => rfl) _)
        obtain ⟨w5, hw5⟩ : ∃ w5, w5 = w3.setCell ⟨g, j * 3 + 1, none⟩ (.int .i64 a') := ⟨_, rfl⟩
        rw [← hw5] at HNEW HBN HCN
        have HW5 := Lib.hid hw5
        clear hfx hnew hw5 hnof hsame
        have hd3 := cell_of_block HB4.out 0
        simp at hd3
        have ha2 : (if a - (many : Int) < (at_ : Int) then (at_ : Int) + (m : Int) else a - (many : Int) + (m : Int)) = a' := by rw [← ha']; split <;> split <;> omega
        clear ha'
        have e1 : wrap64 (a - (many : Int)) = a - (many : Int) := by unfold wrap64; omega
        have e2 : wrap64 (a - (many : Int) + (m : Int)) = a - (many : Int) + (m : Int) := by unfold wrap64; omega
        go_wp2_with fail
        rw [← HW5.out]
        go_roundg (n - (j + 1))
        case measure => have := HK.out; omega
        case rel => exact ⟨j + 1, by omega, rfl, by go_num, HBN, HNEW, HCN⟩
      · have hs := hsame hcond
        have HNEW : Hid (w3.ownsRow 0 44 3 (.slice (some ⟨g, 0, none⟩) n vc1) n (insCells ((R.take (j + 1)).map (fixA at_ many m) ++ R.drop (j + 1)))) := Lib.hid (by rw [hs]; exact HO4.out)
        clear hs hnof hsame
        cases jv with
        | false =>
          go_wp2_with fail
          go_roundg (n - (j + 1))
          case measure => have := HK.out; omega
          case rel => exact ⟨j + 1, by omega, rfl, by go_num, HB4, HNEW, HC4⟩
        | true =>
          have hna : ¬ (at_ : Int) < a := fun h => hcond ⟨rfl, h⟩
          go_wp2_with fail
          go_roundg (n - (j + 1))
          case measure => have := HK.out; omega
          case rel => exact ⟨j + 1, by omega, rfl, by go_num, HB4, HNEW, HC4⟩
    · obtain rfl : j = n := by omega
      have ho := HO.out
      rw [List.take_of_length_le (by have := HN.out; omega), List.drop_of_length_le (by have := HN.out; omega), List.append_nil] at ho
      have HOE := Lib.hid ho
      clear ho
      go_wp2_with fail
      go_end0
      refine ⟨rfl, _, ⟨HB.out, ?_, H2.out.2.1⟩, H2.out.2.2.2, ?_⟩
      · rw [List.length_map, ← HN.out]
        exact HOE.out
      · exact H2.out.2.2.1.trans HC.out (fun _ _ x => x) (fun k _ e => .inr (by rw [← H2.out.2.2.2]; exact e))
end Go.Proofs.YtgiegkacilfofabDoor
