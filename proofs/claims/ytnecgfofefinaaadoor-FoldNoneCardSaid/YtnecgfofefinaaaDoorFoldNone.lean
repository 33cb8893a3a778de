/- FoldNone. -/
import Derived.Test.YtnecgfofefinaaaDoorFoldRd
import Derived.Test.YtnecgfofefinaaaDoorLaid
import Derived.Deep.AppendLies
namespace Go.Proofs.YtnecgfofefinaaaDoor
set_option linter.unusedVariables false
set_option linter.unusedSimpArgs false
open Go.RowKit

def noneI (i : Nat) (x : InsR) : InsR := if x.op = 1 then { x with op := 2 } else if x.op = 15 ∧ x.a = (i : Int) + 1 then { x with op := 18 } else x
def noneL (l : List InsR) : List InsR := l.mapIdx noneI
theorem noneL_take (l : List InsR) (k : Nat) (h : k < l.length) : (noneL l).take (k + 1) = (noneL l).take k ++ [noneI k l[k]] := by
  have h2 : k < (noneL l).length := by rw [noneL, List.length_mapIdx]; exact h
  rw [List.take_succ_eq_append_getElem h2]
  congr 2
  simp [noneL]
theorem noneL_len (l : List InsR) (k : Nat) (h : k ≤ l.length) : ((noneL l).take k).length = k := by rw [List.length_take, noneL, List.length_mapIdx]; omega
theorem noneI_op (i : Nat) (x : InsR) : (noneI i x).op ≠ 1 := by
  unfold noneI
  split
  · show (2 : Int) ≠ 1; decide
  · split
    · show (18 : Int) ≠ 1; decide
    · assumption
theorem noneI_jump (i : Nat) (x : InsR) : ¬ ((noneI i x).op = 15 ∧ (noneI i x).a = (i : Int) + 1) := by
  unfold noneI
  split
  · show ¬ ((2 : Int) = 15 ∧ _); omega
  · split
    · show ¬ ((18 : Int) = 15 ∧ _); omega
    · assumption
theorem noneI_a (i : Nat) (x : InsR) : (noneI i x).a = x.a := by unfold noneI; split; rfl; split <;> rfl
theorem none_get {l : List InsR} {k j : Nat} {y : InsR} (h : ((noneL l).take k)[j]? = some y) : ∃ x ∈ l, y = noneI j x := by
  have h1 := (List.getElem?_eq_some_iff.1 h).1
  rw [List.length_take] at h1
  rw [List.getElem?_take_of_lt (by omega)] at h
  rw [noneL, List.getElem?_mapIdx] at h
  cases e : l[j]? with
  | none => rw [e] at h; cases h
  | some x => rw [e] at h; injection h with h; exact ⟨x, List.mem_of_getElem? e, h.symm⟩
theorem none_fold (l : List InsR) (k : Nat) : foldv ((noneL l).take k) = (noneL l).take k := foldv_none (firstRule_not fun j hj => by
  obtain ⟨x, _, hx⟩ := none_get (List.getElem?_eq_getElem hj)
  unfold ruleV
  rw [List.getElem?_eq_getElem hj]
  simp only [hx]
  rw [if_neg (noneI_jump j x), if_neg (fun e => noneI_op j x e.1)])
theorem none_wf {l : List InsR} (h : ∀ x ∈ l, Full x) (k : Nat) : ∀ x ∈ (noneL l).take k, WfI x := fun y hy => by
  obtain ⟨i, hi, rfl⟩ := List.getElem_of_mem hy
  obtain ⟨x, hx, e⟩ := none_get (List.getElem?_eq_getElem hi)
  rw [e]
  exact ⟨by rw [noneI_a]; exact (h x hx).a⟩
theorem insCells_snoc (l : List InsR) (x : InsR) : insCells (l ++ [x]) = insCells l ++ x.cells := by simp [insCells]

set_option maxHeartbeats 4000000 in
set_option maxRecDepth 100000 in
theorem foldNone_walk (W : World) (A : Option Addr) (c : Nat) (l : List InsR) (hL : SortsIs W) (hB : BodyAt W A c l) :
    Calls Tryd.prog 6 #[.slice A l.length c] W fun e w' => e = .returned (.bool true) ∧ Below W.heap.size W w' := by
  obtain ⟨n, hn⟩ : ∃ n, n = l.length := ⟨_, rfl⟩
  rw [← hn]
  have HN := Lib.hid hn
  have HB := Lib.hid hB
  have CS := Lib.hid (shown_any hL)
  have hnb : n ≤ 5864062014634 := by have := hB.bytes; omega
  clear hn hB hL
  obtain ⟨i0, hi, hz0, hz1, hz2⟩ := info_parts infoIns
  go_enter Tryd.func6, Tryd.ntmps6
  go_wp2_with fail
  refine CS.out.mono ?_; rintro e w1 ⟨rfl, hb1⟩
  have HB1 := Lib.hid hb1
  clear hb1 CS
  go_wp2_with fail
  go_loopg [4, 5] (n + 1) (fun k V i wr => ∃ j : Nat, j ≤ n ∧ j ≤ 80 ∧ k = n - j + 1 ∧ i = .int .i64 j ∧ (∃ AV cV, V = .slice AV j cV) ∧ Hid (wr.ownsRow 0 32 3 V j (insCells ((noneL l).take j))) ∧ Hid (∀ k, V.ownBlock = some k → W.heap.size ≤ k) ∧ Hid (Below W.heap.size W wr))
  case atStart => exact ⟨0, by omega, by omega, by omega, rfl, ⟨_, _, rfl⟩, Lib.hid (World.ownsRow_nil _ _ _ _), Lib.hid (fun _ e => by cases e), HB1⟩
  case round =>
    obtain ⟨j, hj, hj80, hk, rfl, ⟨AV, cV, rfl⟩, HO, HOB, HW⟩ := hrel
    have HK := Lib.hid hk
    clear hk HB1
    by_cases hlt : j < n
    · by_cases h80 : j < 80
      · obtain ⟨b, off, cap, hA, hbs, hcap, c0, c1, c2⟩ := (HB.out.src).get j (by have := HN.out; omega)
        have hA : Value.slice A l.length c = .slice (some ⟨b, off, none⟩) l.length cap := hA
        injection hA with hA1 _ hA3
        subst hA1 hA3
        obtain ⟨op, hop⟩ : ∃ op, op = (l[j]'(by have := HN.out; omega)).op := ⟨_, rfl⟩
        obtain ⟨a, ha⟩ : ∃ a, a = (l[j]'(by have := HN.out; omega)).a := ⟨_, rfl⟩
        obtain ⟨nn, hnn⟩ : ∃ nn, nn = (l[j]'(by have := HN.out; omega)).n := ⟨_, rfl⟩
        rw [← hop] at c0
        rw [← ha] at c1
        rw [← hnn] at c2
        have HEQ : Hid (l[j]'(by have := HN.out; omega) = ⟨op, a, nn⟩) := Lib.hid (by rw [hop, ha, hnn])
        clear hop ha hnn
        have e0 := (Below.chg HW.out).cell c0 (fun x => x)
        have e1 := (Below.chg HW.out).cell c1 (fun x => x)
        have e2 := (Below.chg HW.out).cell c2 (fun x => x)
        clear c0 c1 c2
        by_cases hop : op = 1
        · have HOP := Lib.hid hop
          have q1 : (op == 1) = true := by rw [hop]; rfl
          have q2 : ((2 : Int) == 15) = false := rfl
          clear hop
          have HX : Hid (noneI j ⟨op, a, nn⟩ = ⟨2, a, nn⟩) := Lib.hid (by unfold noneI; simp only []; first | rw [if_pos HOP.out] | (rw [if_neg HOP.out]; first | rw [if_pos HJM.out] | rw [if_neg HJM.out]))
          have HCX : Hid (Chg (fun k => wr.heap.size ≤ k) wr ((wr.alloc (.cells #[.int .i64 2, .int .i64 a, .int .i64 nn] 32)).alloc (.cells #[.int .i64 2, .int .i64 a, .int .i64 nn] 32))) := Lib.hid (((Chg.refl _ _).alloc _).alloc _)
          have HROWX : Hid (((wr.alloc (.cells #[.int .i64 2, .int .i64 a, .int .i64 nn] 32)).alloc (.cells #[.int .i64 2, .int .i64 a, .int .i64 nn] 32)).ownsRow 0 32 3 (.slice AV j cV) j (insCells ((noneL l).take j))) := Lib.hid (ownsRow_kept HO.out HCX.out (fun k hk e => by have := ownsRow_lt HO.out k hk; omega))
          go_wp2_with (at_builtin; refine wpList_append_lies _ rfl _ _ _ rfl 0 32 i0 _ 3 24 Tryd.underlying22 hi hz0 hz1 hz2 rfl (by omega) (.slice AV j cV) j (insCells ((noneL l).take j)) rfl HROWX.out ⟨wr.heap.size + 1, 0, none⟩ 1 1 [.int .i64 2, .int .i64 a, .int .i64 nn] rfl rfl (World.news_of_block (cs := #[.int .i64 2, .int .i64 a, .int .i64 nn]) (t := 32) (fr := (0, 0)) (heap_new' (by simp))) (by simp [Value.oneCell']) (by omega) (by unfold maxLen; omega) (by omega) (by omega) (wr.heap.size + 2) (by simp) ?_; intro g2 cap2 w2 hown2 hgrow2 hat2 hlt2)
          go_roundg (n - (j + 1) + 1)
          case measure => have := HK.out; omega
          case rel =>
            refine ⟨j + 1, by omega, by omega, rfl, by go_num, ⟨_, _, rfl⟩, Lib.hid ?_, Lib.hid ?_, Lib.hid ?_⟩
            · rw [noneL_take l j (by have := HN.out; omega), insCells_snoc, HEQ.out, HX.out]
              exact hown2
            · intro k hk
              obtain rfl : g2 = k := by injection hk
              rcases hat2 with h | h
              · exact HOB.out _ h
              · have := HW.out.size; omega
            · exact HW.out.trans (((HCX.out.mono (T := fun k => W.heap.size ≤ k) (fun k _ e => by have := HW.out.size; omega)).grownBy hgrow2 (fun k hk _ => HOB.out k hk)).below (B := W.heap.size) (fun k hk => hk) HW.out.size)
        · have HOP := Lib.hid hop
          have q1 : (op == 1) = false := by simpa using hop
          clear hop
          by_cases hjm : op = 15 ∧ a = (j : Int) + 1
          · have HJM := Lib.hid hjm
            have q2 : (op == 15) = true := by rw [hjm.1]; rfl
            have q3 : (a == (j : Int) + 1) = true := by rw [hjm.2]; simp
            clear hjm
            have HX : Hid (noneI j ⟨op, a, nn⟩ = ⟨18, a, nn⟩) := Lib.hid (by unfold noneI; simp only []; first | rw [if_pos HOP.out] | (rw [if_neg HOP.out]; first | rw [if_pos HJM.out] | rw [if_neg HJM.out]))
            have HCX : Hid (Chg (fun k => wr.heap.size ≤ k) wr ((wr.alloc (.cells #[.int .i64 18, .int .i64 a, .int .i64 nn] 32)).alloc (.cells #[.int .i64 18, .int .i64 a, .int .i64 nn] 32))) := Lib.hid (((Chg.refl _ _).alloc _).alloc _)
            have HROWX : Hid (((wr.alloc (.cells #[.int .i64 18, .int .i64 a, .int .i64 nn] 32)).alloc (.cells #[.int .i64 18, .int .i64 a, .int .i64 nn] 32)).ownsRow 0 32 3 (.slice AV j cV) j (insCells ((noneL l).take j))) := Lib.hid (ownsRow_kept HO.out HCX.out (fun k hk e => by have := ownsRow_lt HO.out k hk; omega))
            go_wp2_with (at_builtin; refine wpList_append_lies _ rfl _ _ _ rfl 0 32 i0 _ 3 24 Tryd.underlying22 hi hz0 hz1 hz2 rfl (by omega) (.slice AV j cV) j (insCells ((noneL l).take j)) rfl HROWX.out ⟨wr.heap.size + 1, 0, none⟩ 1 1 [.int .i64 18, .int .i64 a, .int .i64 nn] rfl rfl (World.news_of_block (cs := #[.int .i64 18, .int .i64 a, .int .i64 nn]) (t := 32) (fr := (0, 0)) (heap_new' (by simp))) (by simp [Value.oneCell']) (by omega) (by unfold maxLen; omega) (by omega) (by omega) (wr.heap.size + 2) (by simp) ?_; intro g2 cap2 w2 hown2 hgrow2 hat2 hlt2)
            go_roundg (n - (j + 1) + 1)
            case measure => have := HK.out; omega
            case rel =>
              refine ⟨j + 1, by omega, by omega, rfl, by go_num, ⟨_, _, rfl⟩, Lib.hid ?_, Lib.hid ?_, Lib.hid ?_⟩
              · rw [noneL_take l j (by have := HN.out; omega), insCells_snoc, HEQ.out, HX.out]
                exact hown2
              · intro k hk
                obtain rfl : g2 = k := by injection hk
                rcases hat2 with h | h
                · exact HOB.out _ h
                · have := HW.out.size; omega
              · exact HW.out.trans (((HCX.out.mono (T := fun k => W.heap.size ≤ k) (fun k _ e => by have := HW.out.size; omega)).grownBy hgrow2 (fun k hk _ => HOB.out k hk)).below (B := W.heap.size) (fun k hk => hk) HW.out.size)
          · have HJM := Lib.hid hjm
            by_cases ho : op = 15
            · have q2 : (op == 15) = true := by rw [ho]; rfl
              have q3 : (a == (j : Int) + 1) = false := by simpa using fun e => hjm ⟨ho, e⟩
              clear hjm ho
              have HX : Hid (noneI j ⟨op, a, nn⟩ = ⟨op, a, nn⟩) := Lib.hid (by unfold noneI; simp only []; first | rw [if_pos HOP.out] | (rw [if_neg HOP.out]; first | rw [if_pos HJM.out] | rw [if_neg HJM.out]))
              have HCX : Hid (Chg (fun k => wr.heap.size ≤ k) wr ((wr.alloc (.cells #[.int .i64 op, .int .i64 a, .int .i64 nn] 32)).alloc (.cells #[.int .i64 op, .int .i64 a, .int .i64 nn] 32))) := Lib.hid (((Chg.refl _ _).alloc _).alloc _)
              have HROWX : Hid (((wr.alloc (.cells #[.int .i64 op, .int .i64 a, .int .i64 nn] 32)).alloc (.cells #[.int .i64 op, .int .i64 a, .int .i64 nn] 32)).ownsRow 0 32 3 (.slice AV j cV) j (insCells ((noneL l).take j))) := Lib.hid (ownsRow_kept HO.out HCX.out (fun k hk e => by have := ownsRow_lt HO.out k hk; omega))
              go_wp2_with (at_builtin; refine wpList_append_lies _ rfl _ _ _ rfl 0 32 i0 _ 3 24 Tryd.underlying22 hi hz0 hz1 hz2 rfl (by omega) (.slice AV j cV) j (insCells ((noneL l).take j)) rfl HROWX.out ⟨wr.heap.size + 1, 0, none⟩ 1 1 [.int .i64 op, .int .i64 a, .int .i64 nn] rfl rfl (World.news_of_block (cs := #[.int .i64 op, .int .i64 a, .int .i64 nn]) (t := 32) (fr := (0, 0)) (heap_new' (by simp))) (by simp [Value.oneCell']) (by omega) (by unfold maxLen; omega) (by omega) (by omega) (wr.heap.size + 2) (by simp) ?_; intro g2 cap2 w2 hown2 hgrow2 hat2 hlt2)
              go_roundg (n - (j + 1) + 1)
              case measure => have := HK.out; omega
              case rel =>
                refine ⟨j + 1, by omega, by omega, rfl, by go_num, ⟨_, _, rfl⟩, Lib.hid ?_, Lib.hid ?_, Lib.hid ?_⟩
                · rw [noneL_take l j (by have := HN.out; omega), insCells_snoc, HEQ.out, HX.out]
                  exact hown2
                · intro k hk
                  obtain rfl : g2 = k := by injection hk
                  rcases hat2 with h | h
                  · exact HOB.out _ h
                  · have := HW.out.size; omega
                · exact HW.out.trans (((HCX.out.mono (T := fun k => W.heap.size ≤ k) (fun k _ e => by have := HW.out.size; omega)).grownBy hgrow2 (fun k hk _ => HOB.out k hk)).below (B := W.heap.size) (fun k hk => hk) HW.out.size)
            · have q2 : (op == 15) = false := by simpa using ho
              clear hjm ho
              have HX : Hid (noneI j ⟨op, a, nn⟩ = ⟨op, a, nn⟩) := Lib.hid (by unfold noneI; simp only []; first | rw [if_pos HOP.out] | (rw [if_neg HOP.out]; first | rw [if_pos HJM.out] | rw [if_neg HJM.out]))
              have HCX : Hid (Chg (fun k => wr.heap.size ≤ k) wr ((wr.alloc (.cells #[.int .i64 op, .int .i64 a, .int .i64 nn] 32)).alloc (.cells #[.int .i64 op, .int .i64 a, .int .i64 nn] 32))) := Lib.hid (((Chg.refl _ _).alloc _).alloc _)
              have HROWX : Hid (((wr.alloc (.cells #[.int .i64 op, .int .i64 a, .int .i64 nn] 32)).alloc (.cells #[.int .i64 op, .int .i64 a, .int .i64 nn] 32)).ownsRow 0 32 3 (.slice AV j cV) j (insCells ((noneL l).take j))) := Lib.hid (ownsRow_kept HO.out HCX.out (fun k hk e => by have := ownsRow_lt HO.out k hk; omega))
              go_wp2_with (at_builtin; refine wpList_append_lies _ rfl _ _ _ rfl 0 32 i0 _ 3 24 Tryd.underlying22 hi hz0 hz1 hz2 rfl (by omega) (.slice AV j cV) j (insCells ((noneL l).take j)) rfl HROWX.out ⟨wr.heap.size + 1, 0, none⟩ 1 1 [.int .i64 op, .int .i64 a, .int .i64 nn] rfl rfl (World.news_of_block (cs := #[.int .i64 op, .int .i64 a, .int .i64 nn]) (t := 32) (fr := (0, 0)) (heap_new' (by simp))) (by simp [Value.oneCell']) (by omega) (by unfold maxLen; omega) (by omega) (by omega) (wr.heap.size + 2) (by simp) ?_; intro g2 cap2 w2 hown2 hgrow2 hat2 hlt2)
              go_roundg (n - (j + 1) + 1)
              case measure => have := HK.out; omega
              case rel =>
                refine ⟨j + 1, by omega, by omega, rfl, by go_num, ⟨_, _, rfl⟩, Lib.hid ?_, Lib.hid ?_, Lib.hid ?_⟩
                · rw [noneL_take l j (by have := HN.out; omega), insCells_snoc, HEQ.out, HX.out]
                  exact hown2
                · intro k hk
                  obtain rfl : g2 = k := by injection hk
                  rcases hat2 with h | h
                  · exact HOB.out _ h
                  · have := HW.out.size; omega
                · exact HW.out.trans (((HCX.out.mono (T := fun k => W.heap.size ≤ k) (fun k _ e => by have := HW.out.size; omega)).grownBy hgrow2 (fun k hk _ => HOB.out k hk)).below (B := W.heap.size) (fun k hk => hk) HW.out.size)
      · skip
        have HLN : Hid (((noneL l).take j).length = j) := Lib.hid (noneL_len l j (by have := HN.out; omega))
        have CF : Hid (Calls Tryd.prog 10 #[.slice AV j cV] wr fun e w' => ∃ v', e = .returned v' ∧ w'.ownsRow 0 32 3 v' j (insCells ((noneL l).take j)) ∧ Below wr.heap.size wr w') := Lib.hid (by
          refine (fold_any (l := (noneL l).take j) (v := .slice AV j cV) (by rw [HLN.out]; exact Src.of_row HO.out) (by rw [HLN.out]; omega) (none_wf (HB.out.full) j)).mono ?_
          rintro e w' ⟨v', he, ho, _, hb⟩
          rw [none_fold, HLN.out] at ho
          exact ⟨v', he, ho, hb⟩)
        go_wp2_with fail
        refine CF.out.mono ?_; rintro e w2 ⟨v2, rfl, ho2, hb2⟩
        obtain ⟨_, A2, c2, rfl⟩ := ownsRow_slice ho2
        have HS1 : Hid (Src w2 (.slice AV j cV) ((noneL l).take j).length (insCells ((noneL l).take j))) := Lib.hid (by rw [HLN.out]; exact Src.of_row (ownsRow_kept HO.out (Below.chg hb2) (fun _ _ x => x)))
        have HS2 : Hid (Src w2 (.slice A2 j c2) ((noneL l).take j).length (insCells ((noneL l).take j))) := Lib.hid (by rw [HLN.out]; exact Src.of_row ho2)
        have HW2 : Hid (Below W.heap.size W w2) := Lib.hid (bel_trans HW.out hb2)
        clear ho2 hb2 CF
        go_wp2_with fail
        go_loopg [8] j (fun k i wr => ∃ q : Nat, q ≤ j ∧ k = j - q ∧ i = .int .i64 q ∧ ∃ m, wr = w2.drewN m)
        case atStart => exact ⟨0, by omega, by omega, rfl, 0, rfl⟩
        case round =>
          obtain ⟨q, hq, hk2, rfl, m, rfl⟩ := hrel
          have HK2 := Lib.hid hk2
          clear hk2
          by_cases hlq : q < j
          · obtain ⟨b1, o1, k1, e, _, _, p1, p2, p3⟩ := HS1.out.get q (by have := HLN.out; omega)
            obtain ⟨b2, o2, k2, e', _, _, r1, r2, r3⟩ := HS2.out.get q (by have := HLN.out; omega)
            injection e with e1 e2 e3
            injection e' with e1' e2' e3'
            subst e1 e3 e1' e3'
            clear e2 e2'
            generalize ((noneL l).take j)[q]'(by have := HLN.out; omega) = x at *
            obtain ⟨x1, x2, x3⟩ := x
            simp only at p1 p2 p3 r1 r2 r3
            go_wp2_with fail
            go_region
            go_wp2_with fail
            go_roundg (j - (q + 1))
            case measure => have := HK2.out; omega
            case rel => exact ⟨q + 1, by omega, rfl, by go_num, m + 1, rfl⟩
          · go_wp2_with fail
            go_ret
            exact ⟨rfl, HW2.out.trans (((Chg.refl (fun _ => False) w2).drewN m).below (B := W.heap.size) (fun k h => h.elim) HW2.out.size)⟩
    · skip
      have HLN : Hid (((noneL l).take j).length = j) := Lib.hid (noneL_len l j (by have := HN.out; omega))
      have CF : Hid (Calls Tryd.prog 10 #[.slice AV j cV] wr fun e w' => ∃ v', e = .returned v' ∧ w'.ownsRow 0 32 3 v' j (insCells ((noneL l).take j)) ∧ Below wr.heap.size wr w') := Lib.hid (by
        refine (fold_any (l := (noneL l).take j) (v := .slice AV j cV) (by rw [HLN.out]; exact Src.of_row HO.out) (by rw [HLN.out]; omega) (none_wf (HB.out.full) j)).mono ?_
        rintro e w' ⟨v', he, ho, _, hb⟩
        rw [none_fold, HLN.out] at ho
        exact ⟨v', he, ho, hb⟩)
      go_wp2_with fail
      refine CF.out.mono ?_; rintro e w2 ⟨v2, rfl, ho2, hb2⟩
      obtain ⟨_, A2, c2, rfl⟩ := ownsRow_slice ho2
      have HS1 : Hid (Src w2 (.slice AV j cV) ((noneL l).take j).length (insCells ((noneL l).take j))) := Lib.hid (by rw [HLN.out]; exact Src.of_row (ownsRow_kept HO.out (Below.chg hb2) (fun _ _ x => x)))
      have HS2 : Hid (Src w2 (.slice A2 j c2) ((noneL l).take j).length (insCells ((noneL l).take j))) := Lib.hid (by rw [HLN.out]; exact Src.of_row ho2)
      have HW2 : Hid (Below W.heap.size W w2) := Lib.hid (bel_trans HW.out hb2)
      clear ho2 hb2 CF
      go_wp2_with fail
      go_loopg [8] j (fun k i wr => ∃ q : Nat, q ≤ j ∧ k = j - q ∧ i = .int .i64 q ∧ ∃ m, wr = w2.drewN m)
      case atStart => exact ⟨0, by omega, by omega, rfl, 0, rfl⟩
      case round =>
        obtain ⟨q, hq, hk2, rfl, m, rfl⟩ := hrel
        have HK2 := Lib.hid hk2
        clear hk2
        by_cases hlq : q < j
        · obtain ⟨b1, o1, k1, e, _, _, p1, p2, p3⟩ := HS1.out.get q (by have := HLN.out; omega)
          obtain ⟨b2, o2, k2, e', _, _, r1, r2, r3⟩ := HS2.out.get q (by have := HLN.out; omega)
          injection e with e1 e2 e3
          injection e' with e1' e2' e3'
          subst e1 e3 e1' e3'
          clear e2 e2'
          generalize ((noneL l).take j)[q]'(by have := HLN.out; omega) = x at *
          obtain ⟨x1, x2, x3⟩ := x
          simp only at p1 p2 p3 r1 r2 r3
          go_wp2_with fail
          go_region
          go_wp2_with fail
          go_roundg (j - (q + 1))
          case measure => have := HK2.out; omega
          case rel => exact ⟨q + 1, by omega, rfl, by go_num, m + 1, rfl⟩
        · go_wp2_with fail
          go_ret
          exact ⟨rfl, HW2.out.trans (((Chg.refl (fun _ => False) w2).drewN m).below (B := W.heap.size) (fun k h => h.elim) HW2.out.size)⟩
end Go.Proofs.YtnecgfofefinaaaDoor
