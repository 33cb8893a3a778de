/- evenhandref17: Fixed, For. -/
import Derived.Test.YtpjpndndpcebcaaDoorRfold
import Derived.Test.YtpjpndndpcebcaaDoorSpecC
namespace Go.Proofs.YtpjpndndpcebcaaDoor
set_option linter.unusedVariables false
set_option linter.unusedSimpArgs false
open Go.RowKit

set_option maxHeartbeats 4000000 in
set_option maxRecDepth 100000 in
theorem rfixed_any {w : World} {V : Value} {l : List InsR} (nm : ByteArray) (ps vs ar k : Int) (hs : Src w V l.length (insCells l)) (hm : l.length ≤ 1048576) :
    Calls Tryd.prog 13 #[.agg #[.string nm, .int .i64 ps, .int .i64 vs, .int .i64 ar, V], .int .i64 k] w fun e w' => e = .returned (.bool (fixedv ps k l)) ∧ Below w.heap.size w w' := by
  obtain ⟨_, A, c, rfl⟩ := hs.bound
  have HS := Lib.hid hs
  clear hs
  obtain ⟨n, hn⟩ : ∃ n, n = l.length := ⟨_, rfl⟩
  rw [← hn] at hm ⊢
  have HN := Lib.hid hn
  clear hn
  obtain ⟨r, hr⟩ : ∃ r, r = fixedv ps k l := ⟨_, rfl⟩
  rw [← hr]
  have HR := Lib.hid hr
  clear hr
  go_enter Tryd.func13, Tryd.ntmps13
  go_upto_region 1 with fail
  obtain ⟨w0, hw0⟩ : ∃ w0, w0 = w.alloc (.cells #[.string nm, .int .i64 ps, .int .i64 vs, .int .i64 ar, .slice A n c] 28) := ⟨_, rfl⟩
  obtain ⟨P0, hP0⟩ : ∃ P0, P0 = w.heap.size := ⟨_, rfl⟩
  have hb0 : Below w.heap.size w w0 := by rw [hw0]; exact (Below.refl _ _).alloc (Nat.le_refl _) _
  have HX0 : Hid (w0.heap[P0]? = some (.cells #[.string nm, .int .i64 ps, .int .i64 vs, .int .i64 ar, .slice A n c] 28 (0, 0))) := Lib.hid (by rw [hw0]; exact heap_new' hP0.symm)
  rw [← hw0, ← hP0]
  have HB0 := Lib.hid hb0
  clear hw0 hP0 hb0
  have x1 := cell_of_block HX0.out 1
  simp at x1
  by_cases h1 : 0 ≤ k
  · by_cases h2 : k < ps
    · have HRR : Hid (r = !(l.any (setsv k))) := Lib.hid (by rw [HR.out]; unfold fixedv; rw [decide_eq_true ⟨h1, h2⟩]; rfl)
      go_wp2_with fail
      go_loopg [5] n (fun kk i wr => ∃ j : Nat, j ≤ n ∧ kk = n - j ∧ i = .int .i64 j ∧ Hid ((l.take j).any (setsv k) = false) ∧ Hid (wr.heap[P0]? = some (.cells #[.string nm, .int .i64 ps, .int .i64 vs, .int .i64 ar, .slice A n c] 28 (0, 0))) ∧ Hid (Below w.heap.size w wr))
      case atStart => exact ⟨0, by omega, rfl, rfl, Lib.hid (by simp), HX0, HB0⟩
      case round =>
        obtain ⟨j, hj, hk, rfl, HT, HY, HW⟩ := hrel
        have HK := Lib.hid hk
        clear hk x1 h1 h2
        have x4 := cell_of_block HY.out 4
        simp at x4
        by_cases hlt : j < n
        · obtain ⟨b, off, cap, hA, hbs, hcap, c0, c1, c2⟩ := HS.out.get j (by have := HN.out; omega)
          have hA : Value.slice A l.length c = .slice (some ⟨b, off, none⟩) l.length cap := hA
          injection hA with hA1 _ hA3
          subst hA1 hA3
          replace c0 := (Below.chg HW.out).cell c0 (fun x => x)
          replace c1 := (Below.chg HW.out).cell c1 (fun x => x)
          clear c2
          have HTK : Hid (l.take (j + 1) = l.take j ++ [l[j]'(by have := HN.out; omega)]) := Lib.hid (List.take_succ_eq_append_getElem (by have := HN.out; omega))
          have hmem : l[j]'(by have := HN.out; omega) ∈ l := List.getElem_mem _
          generalize l[j]'(by have := HN.out; omega) = x at *
          obtain ⟨op, a, nn⟩ := x
          simp only at c0 c1
          have HMEM := Lib.hid hmem
          clear hmem
          by_cases hh : (op = 3 ∨ op = 21) ∧ a = k
          · have hr1 : r = false := by
              rw [HRR.out]
              have h1 : l.any (setsv k) = true := by
                rw [List.any_eq_true]
                exact ⟨_, HMEM.out, by simp [setsv, hh.1, hh.2]⟩
              rw [h1]; rfl
            subst hr1
            have q3 : (a == k) = true := by rw [hh.2]; simp
            rcases hh.1 with rfl | rfl
            · clear hh
              go_wp2_with fail
              go_ret
              exact ⟨rfl, HW.out⟩
            · clear hh
              go_wp2_with fail
              go_ret
              exact ⟨rfl, HW.out⟩
          · have HT2 : Hid ((l.take (j + 1)).any (setsv k) = false) := Lib.hid (by
              rw [HTK.out, List.any_append, HT.out]
              simp only [List.any_cons, List.any_nil, Bool.or_false, Bool.false_or]
              simp only [setsv]
              rw [Bool.and_eq_false_iff]
              by_cases h1 : op = 3 ∨ op = 21
              · exact .inr (decide_eq_false (fun e => hh ⟨h1, e⟩))
              · exact .inl (decide_eq_false h1))
            by_cases h1 : op = 3
            · have q1 : (op == 3) = true := by rw [h1]; rfl
              have q3 : (a == k) = false := by rw [beq_eq_false_iff_ne]; exact fun e => hh ⟨.inl h1, e⟩
              clear hh h1
              go_wp2_with fail
              go_roundg (n - (j + 1))
              case measure => have := HK.out; omega
              case rel => exact ⟨j + 1, by omega, rfl, by go_num, HT2, HY, HW⟩
            · by_cases h2 : op = 21
              · have q1 : (op == 3) = false := by rw [beq_eq_false_iff_ne]; exact h1
                have q2 : (op == 21) = true := by rw [h2]; rfl
                have q3 : (a == k) = false := by rw [beq_eq_false_iff_ne]; exact fun e => hh ⟨.inr h2, e⟩
                clear hh h1 h2
                go_wp2_with fail
                go_roundg (n - (j + 1))
                case measure => have := HK.out; omega
                case rel => exact ⟨j + 1, by omega, rfl, by go_num, HT2, HY, HW⟩
              · have q1 : (op == 3) = false := by rw [beq_eq_false_iff_ne]; exact h1
                have q2 : (op == 21) = false := by rw [beq_eq_false_iff_ne]; exact h2
                clear hh h1 h2
                go_wp2_with fail
                go_roundg (n - (j + 1))
                case measure => have := HK.out; omega
                case rel => exact ⟨j + 1, by omega, rfl, by go_num, HT2, HY, HW⟩
        · have hr0 : r = true := by
            have h := HT.out
            rw [show j = l.length by have := HN.out; omega, List.take_length] at h
            rw [HRR.out, h]; rfl
          subst hr0
          go_wp2_with fail
          go_ret
          exact ⟨rfl, HW.out⟩
    · have hr0 : r = false := by rw [HR.out]; unfold fixedv; rw [decide_eq_false (fun h => h2 h.2)]; rfl
      subst hr0
      go_wp2_with fail
      go_ret
      exact ⟨rfl, HB0.out⟩
  · have hr0 : r = false := by rw [HR.out]; unfold fixedv; rw [decide_eq_false (fun h => h1 h.1)]; rfl
    subst hr0
    go_wp2_with fail
    go_ret
    exact ⟨rfl, HB0.out⟩

/-- what 'For' makes of an instruction -/
def forI (b : Bool) (k m : Int) (x : InsR) : InsR := if b = true then putI k m x else x
theorem forI_map (l : List InsR) (ps k m : Int) : forv l ps k m = foldv (l.map (forI (fixedv ps k l) k m)) := by
  unfold forv forI
  cases fixedv ps k l <;> simp
theorem putI_full {k m : Int} {x : InsR} (h : Full x) (hm : In64 m) : Full (putI k m x) := by
  unfold putI
  split
  · exact ⟨by show In64 1; unfold In64; omega, by show In64 0; unfold In64; omega, hm⟩
  · exact h

set_option maxHeartbeats 4000000 in
set_option maxRecDepth 100000 in
theorem rfor_any {w : World} {V : Value} {l : List InsR} (nm : ByteArray) (ps vs ar k m : Int) (hs : Src w V l.length (insCells l)) (hm : l.length ≤ 1048576) (hfu : ∀ x ∈ l, Full x) (hmi : In64 m) :
    Calls Tryd.prog 9 #[.agg #[.string nm, .int .i64 ps, .int .i64 vs, .int .i64 ar, V], .int .i64 k, .int .i64 m] w fun e w' => ∃ v', e = .returned v' ∧ Src w' v' (forv l ps k m).length (insCells (forv l ps k m)) ∧ Below w.heap.size w w' := by
  obtain ⟨_, A, c, rfl⟩ := hs.bound
  obtain ⟨w0, hw0⟩ : ∃ w0, w0 = w.alloc (.cells #[.string nm, .int .i64 ps, .int .i64 vs, .int .i64 ar, .slice A l.length c] 28) := ⟨_, rfl⟩
  obtain ⟨P0, hP0⟩ : ∃ P0, P0 = w.heap.size := ⟨_, rfl⟩
  have hb0 : Below w.heap.size w w0 := by rw [hw0]; exact (Below.refl _ _).alloc (Nat.le_refl _) _
  have HX0 : Hid (w0.heap[P0]? = some (.cells #[.string nm, .int .i64 ps, .int .i64 vs, .int .i64 ar, .slice A l.length c] 28 (0, 0))) := Lib.hid (by rw [hw0]; exact heap_new' hP0.symm)
  obtain ⟨w1, hw1⟩ : ∃ w1, w1 = w0.alloc (.cells #[] 41) := ⟨_, rfl⟩
  obtain ⟨G1, hG1⟩ : ∃ G1, G1 = P0 + 1 := ⟨_, rfl⟩
  have hsz : w0.heap.size = G1 := by rw [hw0, hG1, hP0]; simp
  have hb1 : Below w.heap.size w w1 := by rw [hw1]; exact hb0.alloc hb0.size _
  have HROW1 : Hid (w1.ownsRow 0 41 3 (.slice (some ⟨G1, 0, none⟩) 0 0) 0 []) := Lib.hid ⟨rfl, .inr ⟨G1, 0, #[], rfl, Nat.zero_le _, by rw [hw1]; exact heap_new' hsz, Nat.le_refl _, by simp [maxLen], rfl, rfl⟩⟩
  have HGL : Hid (w.heap.size ≤ G1) := Lib.hid (by rw [← hsz]; exact hb0.size)
  have HPG : Hid (P0 < G1) := Lib.hid (by rw [← hsz]; exact lt_of_heap HX0.out)
  have HX1 := Lib.hid (((Chg.refl (fun _ => False) w0).alloc (.cells #[] 41)).heap HX0.out (fun x => x))
  rw [← hw1] at HX1
  have HS1 := Lib.hid (hs.keepB hb1)
  have HS0 : Hid (∀ w', Below w.heap.size w w' → Src w' (.slice A l.length c) l.length (insCells l)) := Lib.hid (fun w' hb => hs.keepB hb)
  have CX := Lib.hid (rfixed_any nm ps vs ar k HS1.out hm)
  obtain ⟨bb, hbb⟩ : ∃ bb, bb = fixedv ps k l := ⟨_, rfl⟩
  have HFV := Lib.hid (forI_map l ps k m)
  rw [← hbb] at CX HFV
  have HWF : Hid (∀ x ∈ l.map (forI bb k m), Full x) := Lib.hid (fun x hx => by
    obtain ⟨y, hy, rfl⟩ := List.mem_map.1 hx
    unfold forI
    split
    · exact putI_full (hfu y hy) hmi
    · exact hfu y hy)
  have HB1 := Lib.hid hb1
  have HWE := Lib.hid (And.intro hw0 (And.intro hP0 (And.intro hw1 hG1)))
  clear hbb hsz hw0 hP0 hb0 hw1 hG1 hb1 hs hfu hmi HX0
  obtain ⟨n, hn⟩ : ∃ n, n = l.length := ⟨_, rfl⟩
  rw [← hn] at CX HX1 HWE hm ⊢
  have HN := Lib.hid hn
  clear hn
  obtain ⟨i0, hi, hz0, hz1, hz2⟩ := info_parts infoRIns
  go_enter Tryd.func9, Tryd.ntmps9
  go_upto_region 2 with fail
  rw [← HWE.out.1, ← HWE.out.2.1, ← HWE.out.2.2.2, ← HWE.out.2.2.1]
  have x0 := cell_of_block HX1.out 0
  have x1 := cell_of_block HX1.out 1
  have x2 := cell_of_block HX1.out 2
  have x3 := cell_of_block HX1.out 3
  have x4 := cell_of_block HX1.out 4
  simp at x0 x1 x2 x3 x4
  go_wp2_with fail
  refine CX.out.mono ?_; rintro e w2 ⟨rfl, hb2⟩
  have HB2 := Lib.hid (bel_trans HB1.out hb2)
  have HX2 := Lib.hid ((Below.chg hb2).heap HX1.out (fun x => x))
  have HROW2 := Lib.hid (ownsRow_kept HROW1.out (Below.chg hb2) (fun _ _ x => x))
  have HSQ : Hid (∀ w', Below w.heap.size w w' → Src w' (.slice A l.length c) l.length (insCells l)) := Lib.hid (fun w' hb => by
    exact HS0.out w' hb)
  clear hb2 x0 x1 x2 x3 x4 CX HX1 HROW1 HS1
  go_wp2_with fail
  go_loopg [7, 9] n (fun kk V i wr => ∃ j : Nat, j ≤ n ∧ kk = n - j ∧ i = .int .i64 j ∧ (∃ AV cV, V = .slice AV j cV) ∧ Hid (wr.ownsRow 0 41 3 V j (insCells ((l.map (forI bb k m)).take j))) ∧ Hid (∀ k, V.ownBlock = some k → P0 < k ∧ w.heap.size ≤ k) ∧ Hid (wr.heap[P0]? = some (.cells #[.string nm, .int .i64 ps, .int .i64 vs, .int .i64 ar, .slice A n c] 28 (0, 0))) ∧ Hid (Below w.heap.size w wr))
  case atStart => exact ⟨0, by omega, rfl, rfl, ⟨_, _, rfl⟩, HROW2, Lib.hid (fun k e => by
    obtain rfl : G1 = k := by injection e
    exact ⟨HPG.out, HGL.out⟩), HX2, HB2⟩
  case round =>
    obtain ⟨j, hj, hk, rfl, ⟨AV, cV, rfl⟩, HO, HOB, HY, HW⟩ := hrel
    have HK := Lib.hid hk
    clear hk
    have y4 := cell_of_block HY.out 4
    simp at y4
    by_cases hlt : j < n
    · obtain ⟨b, off, cap, hA, hbs, hcap, c0, c1, c2⟩ := (HSQ.out wr HW.out).get j (by have := HN.out; omega)
      have hA : Value.slice A l.length c = .slice (some ⟨b, off, none⟩) l.length cap := hA
      injection hA with hA1 _ hA3
      subst hA1 hA3
      have HTK : Hid ((l.map (forI bb k m)).take (j + 1) = (l.map (forI bb k m)).take j ++ [forI bb k m (l[j]'(by have := HN.out; omega))]) := Lib.hid (by rw [List.take_succ_eq_append_getElem (by rw [List.length_map]; have := HN.out; omega), List.getElem_map])
      generalize l[j]'(by have := HN.out; omega) = x at *
      obtain ⟨op, a, nn⟩ := x
      simp only at c0 c1 c2
      cases bb with
      | false =>
        have HX : Hid (forI false k m ⟨op, a, nn⟩ = ⟨op, a, nn⟩) := Lib.hid (by unfold forI putI; rfl)
        have HCX : Hid (Chg (fun k => wr.heap.size ≤ k) wr ((wr.alloc (.cells #[.int .i64 op, .int .i64 a, .int .i64 nn] 41)).alloc (.cells #[.int .i64 op, .int .i64 a, .int .i64 nn] 41))) := Lib.hid (((Chg.refl _ _).alloc _).alloc _)
        have HROWX : Hid (((wr.alloc (.cells #[.int .i64 op, .int .i64 a, .int .i64 nn] 41)).alloc (.cells #[.int .i64 op, .int .i64 a, .int .i64 nn] 41)).ownsRow 0 41 3 (.slice AV j cV) j (insCells ((l.map (forI false k m)).take j))) := Lib.hid (ownsRow_kept HO.out HCX.out (fun k hk e => by have := ownsRow_lt HO.out k hk; omega))
        go_wp2_with (at_builtin; refine wpList_append_lies _ rfl _ _ _ rfl 0 41 i0 _ 3 24 Tryd.underlying26 hi hz0 hz1 hz2 rfl (by omega) (.slice AV j cV) j (insCells ((l.map (forI false k m)).take j)) rfl HROWX.out ⟨wr.heap.size + 1, 0, none⟩ 1 1 [.int .i64 op, .int .i64 a, .int .i64 nn] rfl rfl (World.news_of_block (cs := #[.int .i64 op, .int .i64 a, .int .i64 nn]) (t := 41) (fr := (0, 0)) (heap_new' (by simp))) (by simp [Value.oneCell']) (by omega) (by unfold maxLen; omega) (by omega) (by omega) (wr.heap.size + 2) (by simp) ?_; intro g2 cap2 w2 hown2 hgrow2 hat2 hlt2)
        go_roundg (n - (j + 1))
        case measure => have := HK.out; omega
        case rel =>
          have hg3 : Chg (fun k => w.heap.size ≤ k ∧ P0 < k) wr w2 := (HCX.out.mono (T := fun k => w.heap.size ≤ k ∧ P0 < k) (fun k hk e => by omega)).grownBy hgrow2 (fun k hk _ => ⟨(HOB.out k hk).2, (HOB.out k hk).1⟩)
          refine ⟨j + 1, by omega, rfl, by go_num, ⟨_, _, rfl⟩, Lib.hid ?_, Lib.hid ?_, Lib.hid ?_, Lib.hid ?_⟩
          · rw [HTK.out, insCells_snoc, HX.out]
            exact hown2
          · intro k hk
            obtain rfl : g2 = k := by injection hk
            rcases hat2 with h | h
            · exact HOB.out _ h
            · have := HW.out.size; have h2 := lt_of_heap HY.out; exact ⟨by omega, by omega⟩
          · exact hg3.heap HY.out (fun e => by omega)
          · exact HW.out.trans (hg3.below (B := w.heap.size) (fun k hk => hk.1) HW.out.size)
      | true =>
        by_cases h1 : op = 2
        · by_cases h2 : a = k
          · have q1 : (op == 2) = true := by rw [h1]; rfl
            have q2 : (a == k) = true := by rw [h2]; simp
            have HHH := Lib.hid (And.intro h1 h2)
            clear h1 h2
            have HX : Hid (forI true k m ⟨op, a, nn⟩ = ⟨1, 0, m⟩) := Lib.hid (by unfold forI putI; rw [if_pos rfl, if_pos HHH.out]; rfl)
            have HCX : Hid (Chg (fun k => wr.heap.size ≤ k) wr ((wr.alloc (.cells #[.int .i64 1, .int .i64 0, .int .i64 m] 41)).alloc (.cells #[.int .i64 1, .int .i64 0, .int .i64 m] 41))) := Lib.hid (((Chg.refl _ _).alloc _).alloc _)
            have HROWX : Hid (((wr.alloc (.cells #[.int .i64 1, .int .i64 0, .int .i64 m] 41)).alloc (.cells #[.int .i64 1, .int .i64 0, .int .i64 m] 41)).ownsRow 0 41 3 (.slice AV j cV) j (insCells ((l.map (forI true k m)).take j))) := Lib.hid (ownsRow_kept HO.out HCX.out (fun k hk e => by have := ownsRow_lt HO.out k hk; omega))
            go_wp2_with (at_builtin; refine wpList_append_lies _ rfl _ _ _ rfl 0 41 i0 _ 3 24 Tryd.underlying26 hi hz0 hz1 hz2 rfl (by omega) (.slice AV j cV) j (insCells ((l.map (forI true k m)).take j)) rfl HROWX.out ⟨wr.heap.size + 1, 0, none⟩ 1 1 [.int .i64 1, .int .i64 0, .int .i64 m] rfl rfl (World.news_of_block (cs := #[.int .i64 1, .int .i64 0, .int .i64 m]) (t := 41) (fr := (0, 0)) (heap_new' (by simp))) (by simp [Value.oneCell']) (by omega) (by unfold maxLen; omega) (by omega) (by omega) (wr.heap.size + 2) (by simp) ?_; intro g2 cap2 w2 hown2 hgrow2 hat2 hlt2)
            go_roundg (n - (j + 1))
            case measure => have := HK.out; omega
            case rel =>
              have hg3 : Chg (fun k => w.heap.size ≤ k ∧ P0 < k) wr w2 := (HCX.out.mono (T := fun k => w.heap.size ≤ k ∧ P0 < k) (fun k hk e => by omega)).grownBy hgrow2 (fun k hk _ => ⟨(HOB.out k hk).2, (HOB.out k hk).1⟩)
              refine ⟨j + 1, by omega, rfl, by go_num, ⟨_, _, rfl⟩, Lib.hid ?_, Lib.hid ?_, Lib.hid ?_, Lib.hid ?_⟩
              · rw [HTK.out, insCells_snoc, HX.out]
                exact hown2
              · intro k hk
                obtain rfl : g2 = k := by injection hk
                rcases hat2 with h | h
                · exact HOB.out _ h
                · have := HW.out.size; have h2 := lt_of_heap HY.out; exact ⟨by omega, by omega⟩
              · exact hg3.heap HY.out (fun e => by omega)
              · exact HW.out.trans (hg3.below (B := w.heap.size) (fun k hk => hk.1) HW.out.size)
          · have q1 : (op == 2) = true := by rw [h1]; rfl
            have q2 : (a == k) = false := by rw [beq_eq_false_iff_ne]; exact h2
            have HHH := Lib.hid h2
            clear h1 h2
            have HX : Hid (forI true k m ⟨op, a, nn⟩ = ⟨op, a, nn⟩) := Lib.hid (by unfold forI putI; rw [if_pos rfl, if_neg (fun h => HHH.out h.2)])
            have HCX : Hid (Chg (fun k => wr.heap.size ≤ k) wr ((wr.alloc (.cells #[.int .i64 op, .int .i64 a, .int .i64 nn] 41)).alloc (.cells #[.int .i64 op, .int .i64 a, .int .i64 nn] 41))) := Lib.hid (((Chg.refl _ _).alloc _).alloc _)
            have HROWX : Hid (((wr.alloc (.cells #[.int .i64 op, .int .i64 a, .int .i64 nn] 41)).alloc (.cells #[.int .i64 op, .int .i64 a, .int .i64 nn] 41)).ownsRow 0 41 3 (.slice AV j cV) j (insCells ((l.map (forI true k m)).take j))) := Lib.hid (ownsRow_kept HO.out HCX.out (fun k hk e => by have := ownsRow_lt HO.out k hk; omega))
            go_wp2_with (at_builtin; refine wpList_append_lies _ rfl _ _ _ rfl 0 41 i0 _ 3 24 Tryd.underlying26 hi hz0 hz1 hz2 rfl (by omega) (.slice AV j cV) j (insCells ((l.map (forI true k m)).take j)) rfl HROWX.out ⟨wr.heap.size + 1, 0, none⟩ 1 1 [.int .i64 op, .int .i64 a, .int .i64 nn] rfl rfl (World.news_of_block (cs := #[.int .i64 op, .int .i64 a, .int .i64 nn]) (t := 41) (fr := (0, 0)) (heap_new' (by simp))) (by simp [Value.oneCell']) (by omega) (by unfold maxLen; omega) (by omega) (by omega) (wr.heap.size + 2) (by simp) ?_; intro g2 cap2 w2 hown2 hgrow2 hat2 hlt2)
            go_roundg (n - (j + 1))
            case measure => have := HK.out; omega
            case rel =>
              have hg3 : Chg (fun k => w.heap.size ≤ k ∧ P0 < k) wr w2 := (HCX.out.mono (T := fun k => w.heap.size ≤ k ∧ P0 < k) (fun k hk e => by omega)).grownBy hgrow2 (fun k hk _ => ⟨(HOB.out k hk).2, (HOB.out k hk).1⟩)
              refine ⟨j + 1, by omega, rfl, by go_num, ⟨_, _, rfl⟩, Lib.hid ?_, Lib.hid ?_, Lib.hid ?_, Lib.hid ?_⟩
              · rw [HTK.out, insCells_snoc, HX.out]
                exact hown2
              · intro k hk
                obtain rfl : g2 = k := by injection hk
                rcases hat2 with h | h
                · exact HOB.out _ h
                · have := HW.out.size; have h2 := lt_of_heap HY.out; exact ⟨by omega, by omega⟩
              · exact hg3.heap HY.out (fun e => by omega)
              · exact HW.out.trans (hg3.below (B := w.heap.size) (fun k hk => hk.1) HW.out.size)
        · have q1 : (op == 2) = false := by rw [beq_eq_false_iff_ne]; exact h1
          have HHH := Lib.hid h1
          clear h1
          have HX : Hid (forI true k m ⟨op, a, nn⟩ = ⟨op, a, nn⟩) := Lib.hid (by unfold forI putI; rw [if_pos rfl, if_neg (fun h => HHH.out h.1)])
          have HCX : Hid (Chg (fun k => wr.heap.size ≤ k) wr ((wr.alloc (.cells #[.int .i64 op, .int .i64 a, .int .i64 nn] 41)).alloc (.cells #[.int .i64 op, .int .i64 a, .int .i64 nn] 41))) := Lib.hid (((Chg.refl _ _).alloc _).alloc _)
          have HROWX : Hid (((wr.alloc (.cells #[.int .i64 op, .int .i64 a, .int .i64 nn] 41)).alloc (.cells #[.int .i64 op, .int .i64 a, .int .i64 nn] 41)).ownsRow 0 41 3 (.slice AV j cV) j (insCells ((l.map (forI true k m)).take j))) := Lib.hid (ownsRow_kept HO.out HCX.out (fun k hk e => by have := ownsRow_lt HO.out k hk; omega))
          go_wp2_with (at_builtin; refine wpList_append_lies _ rfl _ _ _ rfl 0 41 i0 _ 3 24 Tryd.underlying26 hi hz0 hz1 hz2 rfl (by omega) (.slice AV j cV) j (insCells ((l.map (forI true k m)).take j)) rfl HROWX.out ⟨wr.heap.size + 1, 0, none⟩ 1 1 [.int .i64 op, .int .i64 a, .int .i64 nn] rfl rfl (World.news_of_block (cs := #[.int .i64 op, .int .i64 a, .int .i64 nn]) (t := 41) (fr := (0, 0)) (heap_new' (by simp))) (by simp [Value.oneCell']) (by omega) (by unfold maxLen; omega) (by omega) (by omega) (wr.heap.size + 2) (by simp) ?_; intro g2 cap2 w2 hown2 hgrow2 hat2 hlt2)
          go_roundg (n - (j + 1))
          case measure => have := HK.out; omega
          case rel =>
            have hg3 : Chg (fun k => w.heap.size ≤ k ∧ P0 < k) wr w2 := (HCX.out.mono (T := fun k => w.heap.size ≤ k ∧ P0 < k) (fun k hk e => by omega)).grownBy hgrow2 (fun k hk _ => ⟨(HOB.out k hk).2, (HOB.out k hk).1⟩)
            refine ⟨j + 1, by omega, rfl, by go_num, ⟨_, _, rfl⟩, Lib.hid ?_, Lib.hid ?_, Lib.hid ?_, Lib.hid ?_⟩
            · rw [HTK.out, insCells_snoc, HX.out]
              exact hown2
            · intro k hk
              obtain rfl : g2 = k := by injection hk
              rcases hat2 with h | h
              · exact HOB.out _ h
              · have := HW.out.size; have h2 := lt_of_heap HY.out; exact ⟨by omega, by omega⟩
            · exact hg3.heap HY.out (fun e => by omega)
            · exact HW.out.trans (hg3.below (B := w.heap.size) (fun k hk => hk.1) HW.out.size)
    · have HR : Hid (wr.ownsRow 0 41 3 (.slice AV j cV) (l.map (forI bb k m)).length (insCells (l.map (forI bb k m)))) := Lib.hid (by
        have h := HO.out
        rw [show j = (l.map (forI bb k m)).length by rw [List.length_map]; have := HN.out; omega, List.take_length] at h
        rw [show j = (l.map (forI bb k m)).length by rw [List.length_map]; have := HN.out; omega]; exact h)
      have CF := Lib.hid (rfold_any (Src.of_row HR.out) (by rw [List.length_map]; have := HN.out; omega) HWF.out)
      rw [← HFV.out] at CF
      go_wp2_with fail
      refine CF.out.mono ?_; rintro e w3 ⟨v3, rfl, hs3, hb3⟩
      have HS3 := Lib.hid (And.intro hs3 (bel_trans HW.out hb3))
      clear hs3 hb3
      go_wp2_with fail
      go_ret
      exact ⟨_, rfl, HS3.out.1, HS3.out.2⟩
end Go.Proofs.YtpjpndndpcebcaaDoor
