/- fold: Fold. -/
import Derived.Test.YtgiegkacilfofabDoorFoldRule
import Derived.WalkMore
import Derived.ScopeJumps
namespace Go.Proofs.YtgiegkacilfofabDoor
set_option linter.unusedVariables false
set_option linter.unusedSimpArgs false
open Go.RowKit

theorem replv_length (l : List InsR) (i many : Nat) (bs : List InsR) (h : i + many ≤ l.length) : (replv l i many bs).length = l.length - many + bs.length := by
  unfold replv
  rw [List.length_map, repl_length l i (i + many) bs (by omega) h]
  omega
theorem replv_wf {l : List InsR} {i many : Nat} {bs : List InsR} (h1 : bs.length ≤ 1) (h2 : bs.length ≤ many) (hl : ∀ x ∈ l, WfI x) (hb : ∀ x ∈ bs, WfI x) : ∀ x ∈ replv l i many bs, WfI x := fun x hx => by
  obtain ⟨y, hy, rfl⟩ := List.mem_map.1 hx
  refine fixA_wf ?_ (by omega) (by omega) (by omega) (by omega)
  unfold repl at hy
  rcases List.mem_append.1 hy with hy | hy
  · rcases List.mem_append.1 hy with hy | hy
    · exact hl y (List.mem_of_mem_take hy)
    · exact hb y hy
  · exact hl y (List.mem_of_mem_drop hy)
theorem push_wf (n : Int) : ∀ x ∈ [pushR n], WfI x := fun x hx => by rw [List.mem_singleton.1 hx]; exact ⟨(by show In64 0; unfold In64; omega)⟩
theorem freev_lt {l : List InsR} {k : Int} (h : freev l k = true) : k < (l.length : Int) := by
  unfold freev at h
  simp only [Bool.and_eq_true, decide_eq_true_eq] at h
  exact h.1
/-- a rule that was used: how, and what it left -/
theorem behindV_some {l l' : List InsR} {i : Nat} {x y : InsR} (hy : l[i + 1]? = some y) (h : behindV l i x y = some l') : ∃ many bs, (many = 2 ∨ many = 3) ∧ bs.length ≤ 1 ∧ i + many ≤ l.length ∧ l' = replv l i many bs ∧ ((∀ x ∈ l, WfI x) → ∀ x ∈ bs, WfI x) := by
  have hl := (List.getElem?_eq_some_iff.1 hy).1
  unfold behindV at h
  split at h
  · injection h with h
    exact ⟨2, _, .inl rfl, by simp, by omega, h.symm, fun _ => push_wf _⟩
  · split at h
    · injection h with h
      exact ⟨2, _, .inl rfl, by simp, by omega, h.symm, fun hw x hx => by rw [List.mem_singleton.1 hx]; exact ⟨(hw y (List.mem_of_getElem? hy)).a⟩⟩
    · split at h
      · injection h with h
        exact ⟨2, _, .inl rfl, by simp, by omega, h.symm, fun _ x hx => by cases hx⟩
      · split at h
        · cases h
        · split at h
          · cases h
          · rename_i z hz
            have hl2 := (List.getElem?_eq_some_iff.1 hz).1
            split at h
            · cases h
            · split at h
              · injection h with h
                exact ⟨3, _, .inr rfl, by simp, by omega, h.symm, fun _ => push_wf _⟩
              · cases h
theorem ruleV_some {l l' : List InsR} {i : Nat} (h : ruleV l i = some l') : ∃ many bs, 1 ≤ many ∧ bs.length < many ∧ bs.length ≤ 1 ∧ i + many ≤ l.length ∧ l' = replv l i many bs ∧ ((∀ x ∈ l, WfI x) → ∀ x ∈ bs, WfI x) := by
  unfold ruleV at h
  split at h
  · cases h
  · rename_i x hx
    have hl := (List.getElem?_eq_some_iff.1 hx).1
    split at h
    · injection h with h
      exact ⟨1, [], by omega, by simp, by simp, by omega, h.symm, fun _ x hx => by cases hx⟩
    · split at h
      · split at h
        · cases h
        · rename_i y hy
          obtain ⟨many, bs, h1, h2, h3, h4, h5⟩ := behindV_some hy h
          exact ⟨many, bs, by omega, by omega, h2, h3, h4, h5⟩
      · cases h
theorem ruleV_less {l l' : List InsR} {i : Nat} (h : ruleV l i = some l') : l'.length < l.length := by
  obtain ⟨many, bs, h1, h2, h3, h4, rfl, _⟩ := ruleV_some h
  rw [replv_length _ _ _ _ h4]
  omega
theorem ruleV_wf {l l' : List InsR} {i : Nat} (h : ruleV l i = some l') (hw : ∀ x ∈ l, WfI x) : ∀ x ∈ l', WfI x := by
  obtain ⟨many, bs, h1, h2, h3, h4, rfl, h5⟩ := ruleV_some h
  exact replv_wf h3 (by omega) hw (h5 hw)
def firstRule (l : List InsR) : Option (List InsR) := (List.range l.length).findSome? (ruleV l)
def foldn : Nat → List InsR → List InsR
  | 0, l => l
  | k + 1, l => match firstRule l with | some l' => foldn k l' | none => l
/-- folded (P1) -/
def foldv (l : List InsR) : List InsR := foldn l.length l
theorem firstRule_some {l l' : List InsR} (h : firstRule l = some l') : ∃ i, i < l.length ∧ ruleV l i = some l' ∧ ∀ j, j < i → ruleV l j = none := by
  unfold firstRule at h
  obtain ⟨l1, i, l2, h1, h2, h3⟩ := List.findSome?_eq_some_iff.1 h
  have hlen := congrArg List.length h1
  simp at hlen
  have hi : (List.range l.length)[l1.length]? = some i := by rw [h1]; simp
  have hil : l1.length = i := by
    rw [List.getElem?_range (by omega)] at hi
    injection hi
  refine ⟨i, by omega, h2, fun j hj => h3 j ?_⟩
  have hj2 : (List.range l.length)[j]? = some j := List.getElem?_range (by omega)
  rw [h1, List.getElem?_append_left (by omega)] at hj2
  exact List.mem_of_getElem? hj2
theorem firstRule_less {l l' : List InsR} (h : firstRule l = some l') : l'.length < l.length := by
  obtain ⟨i, _, h, _⟩ := firstRule_some h
  exact ruleV_less h
theorem foldn_enough : ∀ (n : Nat) (l : List InsR), l.length = n → ∀ k, n ≤ k → foldn k l = foldn n l := by
  intro n
  induction n using Nat.strongRecOn with
  | ind n ih =>
    intro l hl k hk
    cases k with
    | zero => obtain rfl : n = 0 := by omega
              rfl
    | succ k =>
      cases n with
      | zero =>
        have h0 : firstRule l = none := by unfold firstRule; rw [hl]; rfl
        rw [show foldn (k + 1) l = (match firstRule l with | some l' => foldn k l' | none => l) from rfl, h0]
        rfl
      | succ n =>
        rw [foldn, foldn]
        cases h : firstRule l with
        | none => rfl
        | some l' =>
          have hlt := firstRule_less h
          simp only
          rw [ih l'.length (by omega) l' rfl k (by omega), ih l'.length (by omega) l' rfl n (by omega)]
theorem foldv_none {l : List InsR} (h : firstRule l = none) : foldv l = l := by
  unfold foldv
  cases hl : l.length with
  | zero => rfl
  | succ n => rw [foldn, h]
theorem foldv_some {l l' : List InsR} (h : firstRule l = some l') : foldv l = foldv l' := by
  have hlt := firstRule_less h
  unfold foldv
  cases hl : l.length with
  | zero => omega
  | succ n =>
    rw [foldn, h]
    simp only
    exact foldn_enough l'.length l' rfl n (by omega)
theorem firstRule_at {l l' : List InsR} {i : Nat} (hi : i < l.length) (h : ruleV l i = some l') (hb : ∀ j, j < i → ruleV l j = none) : firstRule l = some l' := by
  cases hf : firstRule l with
  | none =>
    unfold firstRule at hf
    rw [List.findSome?_eq_none_iff] at hf
    have := hf i (by simpa using hi)
    rw [h] at this
    cases this
  | some l'' =>
    obtain ⟨k, hk, h2, h3⟩ := firstRule_some hf
    rcases Nat.lt_trichotomy i k with hlt | rfl | hlt
    · have := h3 i hlt
      rw [h] at this
      cases this
    · rw [h] at h2
      injection h2 with h2
      rw [h2]
    · have := hb k hlt
      rw [h2] at this
      cases this
theorem firstRule_not {l : List InsR} (h : ∀ j, j < l.length → ruleV l j = none) : firstRule l = none := by
  unfold firstRule
  rw [List.findSome?_eq_none_iff]
  exact fun j hj => h j (by simpa using hj)

def lenAt (w : World) : Value → Nat
  | .pointer (some a) => (match w.cell? ⟨a.block, 0, none⟩ with | some (.slice _ n _) => n | _ => 0)
  | _ => 0
theorem lenAt_of {w : World} {F n c : Nat} {A : Option Addr} (h : w.cell? ⟨F, 0, none⟩ = some (.slice A n c)) : lenAt w (.pointer (some ⟨F, 0, none⟩)) = n := by
  unfold lenAt
  simp only
  rw [h]
set_option maxHeartbeats 4000000 in
set_option maxRecDepth 100000 in
theorem fold_any {w : World} {v : Value} {l : List InsR} (hs : Src w v l.length (insCells l)) (hl : l.length ≤ 1048576) (hwl : ∀ x ∈ l, WfI x) :
    Calls Tryd.prog 55 #[v] w fun e w' => ∃ v', e = .returned v' ∧ w'.ownsRow 0 44 3 v' (foldv l).length (insCells (foldv l)) ∧ (∀ k, v'.ownBlock = some k → w.heap.size ≤ k) ∧ Below w.heap.size w w' := by
  obtain ⟨_, A, c, rfl⟩ := hs.bound
  have CC := Lib.hid (cloneIns_any hs (insCells_length l) (insCells_one l) (by omega))
  go_enter Tryd.func55, Tryd.ntmps55
  go_wp2_with fail
  -- where the box will lie is known behind the clone alone: the jump's relation leaves it open
  refine wp_scope_jumps 0 (fun a' w' => ∃ F, w.heap.size ≤ F ∧ (fun a' w' => (∃ u0 u1 u2 u4 u5 u6 u7 u8 u9 u10 u11 u12 u13 u14 u15 u16 u17 u18 u19 u20 u21 u22 u23 u24 : Value, a' = { tmps := #[u0, u1, u2, .pointer (some ⟨F, 0, none⟩), u4, u5, u6, u7, u8, u9, u10, u11, u12, u13, u14, u15, u16, u17, u18, u19, u20, u21, u22, u23, u24], defers := [] }) ∧ ∃ V l', Hid (FoldIs w' F V l') ∧ Hid (foldv l' = foldv l ∧ l'.length ≤ l.length ∧ (∀ x ∈ l', WfI x) ∧ (∀ k, V.ownBlock = some k → w.heap.size ≤ k) ∧ Below w.heap.size w w')) a' w') (fun a' w' => lenAt w' (a'.tmps.getD 3 undef)) rfl ?_ ?_
  · go_wp2_with fail
    refine CC.out.mono ?_; rintro e w1 ⟨v1, rfl, ho1, hn1, hc1⟩
    obtain ⟨_, A1, c1, rfl⟩ := ownsRow_slice ho1
    obtain ⟨F, hF⟩ : ∃ F, F = w1.heap.size := ⟨_, rfl⟩
    obtain ⟨wj, hwj⟩ : ∃ wj, wj = w1.alloc (.cells #[.slice A1 l.length c1] 132) := ⟨_, rfl⟩
    have hb1 : Below w.heap.size w wj := by rw [hwj]; exact hc1.to_below.alloc hc1.size _
    have HF0 : Hid (w.heap.size ≤ F) := Lib.hid (by rw [hF]; exact hc1.size)
    have HFI : Hid (FoldIs wj F (.slice A1 l.length c1) l) := Lib.hid ⟨by rw [hwj]; exact heap_new' hF.symm, by rw [hwj]; exact ownsRow_kept ho1 ((Chg.refl (fun _ => False) w1).alloc _) (fun _ _ x => x), fun e => by have := ownsRow_lt ho1 _ e; omega⟩
    have HJ : Hid (foldv l = foldv l ∧ l.length ≤ l.length ∧ (∀ x ∈ l, WfI x) ∧ (∀ k, (Value.slice A1 l.length c1).ownBlock = some k → w.heap.size ≤ k) ∧ Below w.heap.size w wj) := Lib.hid ⟨rfl, Nat.le_refl _, hwl, hn1, hb1⟩
    have HWJ := Lib.hid (And.intro hF hwj)
    clear hF hwj hb1 ho1 hn1 hc1 hs
    go_wp2_with fail
    rw [← HWJ.out.1, ← HWJ.out.2]
    clear HWJ
    go_step3
    obtain ⟨n, hn⟩ : ∃ n, n = l.length := ⟨_, rfl⟩
    have d0 := cell_of_block HFI.out.box 0
    simp at d0
    rw [← hn] at d0
    have HN := Lib.hid hn
    have hnb : n ≤ 1048576 := by have := HJ.out.2.1; omega
    have HV : Hid (FoldIs wj F (.slice A1 n c1) l) := Lib.hid (by have := HFI.out; rwa [← hn] at this)
    clear hn
    go_wp2_with fail
    clear d0
    go_loopg [14] n (fun k i wr => ∃ j : Nat, j ≤ n ∧ k = n - j ∧ i = .int .i64 j ∧ (∃ V2, Hid (FoldIs wr F V2 l ∧ V2.ownBlock = (Value.slice A1 n c1).ownBlock)) ∧ Hid (∀ i, i < j → ruleV l i = none) ∧ Hid (Chg (fun k => k = F ∨ (Value.slice A1 n c1).ownBlock = some k) wj wr))
    case atStart => exact ⟨0, by omega, rfl, rfl, ⟨_, Lib.hid ⟨HV.out, rfl⟩⟩, Lib.hid (fun i hi => by omega), Lib.hid (Chg.refl _ _)⟩
    case round =>
      obtain ⟨j, hj, hk, rfl, ⟨V2, HV2⟩, HRN, HC⟩ := hrel
      have HK := Lib.hid hk
      clear hk
      have hbel : Below w.heap.size w wr := HJ.out.2.2.2.2.trans (HC.out.below (B := w.heap.size) (fun k hk => by
        rcases hk with hk | hk
        · have := HF0.out; omega
        · exact HJ.out.2.2.2.1 k (by rw [HN.out] at hk; exact hk)) HJ.out.2.2.2.2.size)
      have HBE := Lib.hid hbel
      clear hbel
      by_cases hlt : j < n
      · have CR := Lib.hid (rule_any (w := wr) j HV2.out.1 (by have := HN.out; omega) (by have := HN.out; omega) HJ.out.2.2.1)
        obtain ⟨o, ho⟩ : ∃ o, ruleV l j = o := ⟨_, rfl⟩
        rw [ho] at CR
        have HO := Lib.hid ho
        clear ho
        cases o with
        | none =>
          go_wp2_with fail
          refine CR.out.mono ?_; rintro e w5 ⟨rfl, V3, hf3, ho3, hc3⟩
          have HV3 : Hid (FoldIs w5 F V3 l ∧ V3.ownBlock = (Value.slice A1 n c1).ownBlock) := Lib.hid ⟨hf3, ho3.trans HV2.out.2⟩
          have HC3 : Hid (Chg (fun k => k = F ∨ (Value.slice A1 n c1).ownBlock = some k) wj w5) := Lib.hid (HC.out.then (hc3.mono (fun k _ e => by rcases e with e | e; exact .inl e; exact .inr (by rw [← HV2.out.2]; exact e))))
          have HR3 : Hid (∀ i, i < j + 1 → ruleV l i = none) := Lib.hid (fun i hi => by
            rcases Nat.lt_succ_iff_lt_or_eq.1 hi with h | h
            · exact HRN.out i h
            · rw [h]; exact HO.out)
          clear hf3 ho3 hc3
          go_wp2_with fail
          go_roundg (n - (j + 1))
          case measure => have := HK.out; omega
          case rel => exact ⟨j + 1, by omega, rfl, by go_num, ⟨_, HV3⟩, HR3, HC3⟩
        | some l3 =>
          go_wp2_with fail
          refine CR.out.mono ?_; rintro e w5 ⟨rfl, V3, hf3, ho3, hc3⟩
          have hf3 : FoldIs w5 F V3 l3 := hf3
          have hfr := firstRule_at (l := l) (by have := HN.out; omega) HO.out HRN.out
          have hless := firstRule_less hfr
          have hJn : foldv l3 = foldv l ∧ l3.length ≤ l.length ∧ (∀ x ∈ l3, WfI x) ∧ (∀ k, V3.ownBlock = some k → w.heap.size ≤ k) ∧ Below w.heap.size w w5 := by
            have how : ∀ k, V2.ownBlock = some k → w.heap.size ≤ k := fun k hk => HJ.out.2.2.2.1 k (by rw [HV2.out.2, HN.out] at hk; exact hk)
            exact ⟨(foldv_some hfr).symm, by have := HJ.out.2.1; omega, ruleV_wf HO.out HJ.out.2.2.1, fun k hk => how k (by rw [← ho3]; exact hk), HBE.out.trans (hc3.below (B := w.heap.size) (fun k hk => by
              rcases hk with hk | hk
              · have := HF0.out; omega
              · exact how k hk) HBE.out.size)⟩
          have HJN := Lib.hid (And.intro hJn (And.intro hf3 hless))
          clear hf3 ho3 hc3 hfr hless hJn
          go_wp2_with fail
          go_step3
          exact ⟨rfl, F, HF0.out, ⟨_, _, _, _, _, _, _, _, _, _, _, _, _, _, _, _, _, _, _, _, _, _, _, _, rfl⟩, V3, l3, Lib.hid HJN.out.2.1, Lib.hid HJN.out.1⟩
      · obtain rfl : j = n := by omega
        have hfin := foldv_none (firstRule_not (fun i hi => HRN.out i (by have := HN.out; omega)))
        have d0 := cell_of_block HV2.out.1.box 0
        simp at d0
        obtain ⟨_, A3, c3, hV2⟩ := ownsRow_slice HV2.out.1.row
        have hrow := HV2.out.1.row
        have HE : Hid (foldv l = l) := Lib.hid hfin
        have HROW := Lib.hid hrow
        have HOW : Hid (∀ k, V2.ownBlock = some k → w.heap.size ≤ k) := Lib.hid (fun k hk => HJ.out.2.2.2.1 k (by rw [HV2.out.2, HN.out] at hk; exact hk))
        clear hrow hfin
        subst hV2
        go_wp2_with fail
        try simp only [Exit.jump]
        go_ret
        rw [HE.out]
        exact ⟨_, rfl, HROW.out, HOW.out, HBE.out⟩
  · rintro a' wj ⟨F, hF0, ⟨u0, u1, u2, u4, u5, u6, u7, u8, u9, u10, u11, u12, u13, u14, u15, u16, u17, u18, u19, u20, u21, u22, u23, u24, rfl⟩, V, l2, HFI, HJ⟩
    have HF0 := Lib.hid hF0
    clear hF0
    obtain ⟨_, A1, c1, rfl⟩ := ownsRow_slice HFI.out.row
    obtain ⟨n, hn⟩ : ∃ n, n = l2.length := ⟨_, rfl⟩
    have d0 := cell_of_block HFI.out.box 0
    simp at d0
    rw [← hn] at d0
    have HN := Lib.hid hn
    have hnb : n ≤ 1048576 := by have := HJ.out.2.1; omega
    have HV : Hid (FoldIs wj F (.slice A1 n c1) l2) := Lib.hid (by have := HFI.out; rwa [← hn] at this)
    clear hn
    go_wp2_with fail
    clear d0
    go_loopg [14] n (fun k i wr => ∃ j : Nat, j ≤ n ∧ k = n - j ∧ i = .int .i64 j ∧ (∃ V2, Hid (FoldIs wr F V2 l2 ∧ V2.ownBlock = (Value.slice A1 n c1).ownBlock)) ∧ Hid (∀ i, i < j → ruleV l2 i = none) ∧ Hid (Chg (fun k => k = F ∨ (Value.slice A1 n c1).ownBlock = some k) wj wr))
    case atStart => exact ⟨0, by omega, rfl, rfl, ⟨_, Lib.hid ⟨HV.out, rfl⟩⟩, Lib.hid (fun i hi => by omega), Lib.hid (Chg.refl _ _)⟩
    case round =>
      obtain ⟨j, hj, hk, rfl, ⟨V2, HV2⟩, HRN, HC⟩ := hrel
      have HK := Lib.hid hk
      clear hk
      have hbel : Below w.heap.size w wr := HJ.out.2.2.2.2.trans (HC.out.below (B := w.heap.size) (fun k hk => by
        rcases hk with hk | hk
        · have := HF0.out; omega
        · exact HJ.out.2.2.2.1 k (by rw [HN.out] at hk; exact hk)) HJ.out.2.2.2.2.size)
      have HBE := Lib.hid hbel
      clear hbel
      by_cases hlt : j < n
      · have CR := Lib.hid (rule_any (w := wr) j HV2.out.1 (by have := HN.out; omega) (by have := HN.out; omega) HJ.out.2.2.1)
        obtain ⟨o, ho⟩ : ∃ o, ruleV l2 j = o := ⟨_, rfl⟩
        rw [ho] at CR
        have HO := Lib.hid ho
        clear ho
        cases o with
        | none =>
          go_wp2_with fail
          refine CR.out.mono ?_; rintro e w5 ⟨rfl, V3, hf3, ho3, hc3⟩
          have HV3 : Hid (FoldIs w5 F V3 l2 ∧ V3.ownBlock = (Value.slice A1 n c1).ownBlock) := Lib.hid ⟨hf3, ho3.trans HV2.out.2⟩
          have HC3 : Hid (Chg (fun k => k = F ∨ (Value.slice A1 n c1).ownBlock = some k) wj w5) := Lib.hid (HC.out.then (hc3.mono (fun k _ e => by rcases e with e | e; exact .inl e; exact .inr (by rw [← HV2.out.2]; exact e))))
          have HR3 : Hid (∀ i, i < j + 1 → ruleV l2 i = none) := Lib.hid (fun i hi => by
            rcases Nat.lt_succ_iff_lt_or_eq.1 hi with h | h
            · exact HRN.out i h
            · rw [h]; exact HO.out)
          clear hf3 ho3 hc3
          go_wp2_with fail
          go_roundg (n - (j + 1))
          case measure => have := HK.out; omega
          case rel => exact ⟨j + 1, by omega, rfl, by go_num, ⟨_, HV3⟩, HR3, HC3⟩
        | some l3 =>
          go_wp2_with fail
          refine CR.out.mono ?_; rintro e w5 ⟨rfl, V3, hf3, ho3, hc3⟩
          have hf3 : FoldIs w5 F V3 l3 := hf3
          have hfr := firstRule_at (l := l2) (by have := HN.out; omega) HO.out HRN.out
          have hless := firstRule_less hfr
          have hJn : foldv l3 = foldv l ∧ l3.length ≤ l.length ∧ (∀ x ∈ l3, WfI x) ∧ (∀ k, V3.ownBlock = some k → w.heap.size ≤ k) ∧ Below w.heap.size w w5 := by
            have how : ∀ k, V2.ownBlock = some k → w.heap.size ≤ k := fun k hk => HJ.out.2.2.2.1 k (by rw [HV2.out.2, HN.out] at hk; exact hk)
            exact ⟨by rw [← foldv_some hfr]; exact HJ.out.1, by have := HJ.out.2.1; omega, ruleV_wf HO.out HJ.out.2.2.1, fun k hk => how k (by rw [← ho3]; exact hk), HBE.out.trans (hc3.below (B := w.heap.size) (fun k hk => by
              rcases hk with hk | hk
              · have := HF0.out; omega
              · exact how k hk) HBE.out.size)⟩
          have HJN := Lib.hid (And.intro hJn (And.intro hf3 hless))
          clear hf3 ho3 hc3 hfr hless hJn
          go_wp2_with fail
          go_step3
          refine ⟨rfl, ⟨F, HF0.out, ⟨_, _, _, _, _, _, _, _, _, _, _, _, _, _, _, _, _, _, _, _, _, _, _, _, rfl⟩, V3, l3, Lib.hid HJN.out.2.1, Lib.hid HJN.out.1⟩, ?_⟩
          obtain ⟨_, A5, c5, h5⟩ := ownsRow_slice HJN.out.2.1.row
          have b5 := cell_of_block HJN.out.2.1.box 0
          have bj := cell_of_block HFI.out.box 0
          simp at b5 bj
          rw [h5] at b5
          show lenAt w5 (.pointer (some ⟨F, 0, none⟩)) < lenAt wj (.pointer (some ⟨F, 0, none⟩))
          rw [lenAt_of b5, lenAt_of bj]
          exact HJN.out.2.2
      · obtain rfl : j = n := by omega
        have hfin := foldv_none (firstRule_not (fun i hi => HRN.out i (by have := HN.out; omega)))
        have d0 := cell_of_block HV2.out.1.box 0
        simp at d0
        obtain ⟨_, A3, c3, hV2⟩ := ownsRow_slice HV2.out.1.row
        have hrow := HV2.out.1.row
        have HE : Hid (foldv l = l2) := Lib.hid (by rw [← HJ.out.1]; exact hfin)
        have HROW := Lib.hid hrow
        have HOW : Hid (∀ k, V2.ownBlock = some k → w.heap.size ≤ k) := Lib.hid (fun k hk => HJ.out.2.2.2.1 k (by rw [HV2.out.2, HN.out] at hk; exact hk))
        clear hrow hfin
        subst hV2
        go_wp2_with fail
        try simp only [Exit.jump]
        go_ret
        rw [HE.out]
        exact ⟨_, rfl, HROW.out, HOW.out, HBE.out⟩
end Go.Proofs.YtgiegkacilfofabDoor
