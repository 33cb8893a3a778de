/- The document's cache: Get; and rows of its instructions: rows, match. -/
import Derived.Test.YthmjmggeihonnaaCacheRef
namespace Go.Proofs.Ythmjmggeihonnaa
set_option linter.unusedVariables false
set_option linter.unusedSimpArgs false
open Go.RowKit Go.Deep

set_option maxHeartbeats 1000000 in
set_option maxRecDepth 100000 in
theorem match_any {w : World} {a b : Value} {xs ys : List InsR} (ha : Src w a xs.length (insCells xs)) (hb : Src w b ys.length (insCells ys)) :
    Calls Try.prog 19 #[a, b] w fun e w' => e = .returned (.bool (decide (xs = ys))) ∧ ∃ m, w' = w.drewN m := by
  have HA := Lib.hid ha
  have HB := Lib.hid hb
  obtain ⟨ma, A, ca, rfl⟩ := ha.bound
  obtain ⟨mb, B, cb, rfl⟩ := hb.bound
  clear ha hb
  obtain ⟨n, hN⟩ : ∃ n, n = xs.length := ⟨_, rfl⟩
  obtain ⟨m, hM⟩ : ∃ m, m = ys.length := ⟨_, rfl⟩
  rw [← hN] at ma HA
  rw [← hM] at mb HB
  rw [← hN, ← hM]
  have HN := Lib.hid hN
  have HM := Lib.hid hM
  clear hN hM
  unfold maxLen at ma mb
  by_cases hl : n = m
  · subst hl
    go_enter Try.func19, Try.ntmps19
    go_wp2_with fail
    go_loopg [5] n (fun k i wr => ∃ j : Nat, j ≤ n ∧ k = n - j ∧ i = .int .i64 j ∧ Hid (xs.take j = ys.take j) ∧ ∃ m, wr = w.drewN m)
    case atStart => exact ⟨0, by omega, rfl, rfl, Lib.hid rfl, 0, rfl⟩
    case round =>
      obtain ⟨j, hj, hk, rfl, HT, m, rfl⟩ := hrel
      have HK := Lib.hid hk
      clear hk
      by_cases hlt : j < n
      · have hx : j < xs.length := by rw [← HN.out]; exact hlt
        have hy : j < ys.length := by rw [← HM.out]; exact hlt
        have ex : xs[j]? = some xs[j] := List.getElem?_eq_getElem hx
        have ey : ys[j]? = some ys[j] := List.getElem?_eq_getElem hy
        obtain ⟨f1, f2, f3⟩ := insCells_get xs j hx
        obtain ⟨g1, g2, g3⟩ := insCells_get ys j hy
        rcases HA.out with ⟨e, h0, _⟩ | ⟨b1, o1, c1, e, _, _, _, d1⟩
        · exact absurd h0 (by omega)
        rcases HB.out with ⟨e', h0, _⟩ | ⟨b2, o2, c2, e', _, _, _, d2⟩
        · exact absurd h0 (by omega)
        injection e with e1 e2 e3
        injection e' with e1' e2' e3'
        subst e1 e3 e1' e3'
        clear e2 e2'
        have p1 : w.cell? ⟨b1, o1 + j * 3, none⟩ = _ := d1 _ _ f1
        have p2 : w.cell? ⟨b1, o1 + j * 3 + 1, none⟩ = _ := d1 _ _ f2
        have p3 : w.cell? ⟨b1, o1 + j * 3 + 2, none⟩ = _ := d1 _ _ f3
        have q1 : w.cell? ⟨b2, o2 + j * 3, none⟩ = _ := d2 _ _ g1
        have q2 : w.cell? ⟨b2, o2 + j * 3 + 1, none⟩ = _ := d2 _ _ g2
        have q3 : w.cell? ⟨b2, o2 + j * 3 + 2, none⟩ = _ := d2 _ _ g3
        have HX := Lib.hid (And.intro ex ey)
        clear ex ey d1 d2 f1 f2 f3 g1 g2 g3
        generalize xs[j] = x at *
        generalize ys[j] = y at *
        obtain ⟨x1, x2, x3⟩ := x
        obtain ⟨y1, y2, y3⟩ := y
        simp only at p1 p2 p3 q1 q2 q3
        have hcs : (x1 = y1 ∧ x2 = y2 ∧ x3 = y3) ∨ (¬ x1 = y1) ∨ (x1 = y1 ∧ ¬ x2 = y2) ∨ (x1 = y1 ∧ x2 = y2 ∧ ¬ x3 = y3) := by
          by_cases e1 : x1 = y1
          · by_cases e2 : x2 = y2
            · by_cases e3 : x3 = y3
              · exact .inl ⟨e1, e2, e3⟩
              · exact .inr (.inr (.inr ⟨e1, e2, e3⟩))
            · exact .inr (.inr (.inl ⟨e1, e2⟩))
          · exact .inr (.inl e1)
        rcases hcs with ⟨rfl, rfl, rfl⟩ | hne | ⟨rfl, hne⟩ | ⟨rfl, rfl, hne⟩
        · go_wp2_with fail
          go_region
          go_wp2_with fail
          go_roundg (n - (j + 1))
          case measure => have := HK.out; omega
          case rel => exact ⟨j + 1, by omega, rfl, by go_num, Lib.hid (by
            obtain ⟨ex, ey⟩ := HX.out
            rw [List.take_add_one, List.take_add_one, HT.out, ex, ey]), m + 1, rfl⟩
        iterate 3
          · go_wp2_with fail
            go_region
            go_wp2_with fail
            go_ret
            refine ⟨?_, m + 1, rfl⟩
            rw [decide_eq_false (fun e => by
              obtain ⟨ex, ey⟩ := HX.out
              rw [e, ey] at ex
              injection ex with ex
              injection ex with ex1 ex2 ex3
              first | exact hne ex1.symm | exact hne ex2.symm | exact hne ex3.symm)]
            rfl
      · go_wp2_with fail
        go_ret
        refine ⟨?_, m, rfl⟩
        have : j = xs.length := by rw [← HN.out]; omega
        have h := HT.out
        rw [this, List.take_length, ← HN.out, HM.out, List.take_length] at h
        rw [decide_eq_true h]
        rfl
  · go_enter Try.func19, Try.ntmps19
    go_wp2_with fail
    go_ret
    refine ⟨?_, 0, rfl⟩
    rw [decide_eq_false (fun e => hl (by rw [HN.out, HM.out, e]))]
    rfl

theorem getl_rtold (es : List REnt) (fn : Int) : getl (es.map REnt.told) fn = (es.find? (fun e => e.fn == fn)).map REnt.body := by
  unfold getl
  rw [List.find?_map, Option.map_map]
  rfl
def OutRef (w : World) (b : Bool) (body : List InsR) (e : Ending) : Prop := ∃ A cp, e = .returned (.tuple #[.slice A body.length cp, .bool b]) ∧ Src w (.slice A body.length cp) body.length (insCells body) ∧ (body = [] ∨ ∃ k, (Value.slice A body.length cp).ownBlock = some k)
set_option maxHeartbeats 2000000 in
set_option maxRecDepth 100000 in
theorem rcget_any {w : World} {S : Nat → Prop} {r : Nat} {cap : Int} {vL : Value} {es : List REnt} (h : RCSt w S r cap vL es) (fn : Int) (hm : es.length ≤ 1048576) :
    Calls Try.prog 17 #[.pointer (some ⟨r, 0, none⟩), .int .i64 fn] w fun e w' => (∃ A cp, e = .returned (.tuple #[.slice A ((getl (es.map REnt.told) fn).getD []).length cp, .bool (getl (es.map REnt.told) fn).isSome]) ∧ Src w (.slice A ((getl (es.map REnt.told) fn).getD []).length cp) ((getl (es.map REnt.told) fn).getD []).length (insCells ((getl (es.map REnt.told) fn).getD [])) ∧ ∀ k, (Value.slice A ((getl (es.map REnt.told) fn).getD []).length cp).ownBlock = some k → S k) ∧ w' = w := by
  have c1 := cell_of_block h.blk 1
  simp at c1
  have HH := Lib.hid h
  obtain ⟨n, hN⟩ : ∃ n, n = es.length := ⟨_, rfl⟩
  have hvs : ∃ A c, vL = .slice A n c := by rw [hN]; exact (ownsRow_slice h.own).2
  obtain ⟨A, c, rfl⟩ := hvs
  rw [← hN] at hm
  rw [getl_rtold]
  have HN := Lib.hid hN
  clear h hN
  go_enter Try.func17, Try.ntmps17
  go_wp2_with fail
  go_loopg [6] n (fun k i wr => ∃ j : Nat, j ≤ n ∧ k = n - j ∧ i = .int .i64 j ∧ Hid (es.find? (fun e => e.fn == fn) = (es.drop j).find? (fun e => e.fn == fn)) ∧ wr = w)
  case atStart => exact ⟨0, by omega, rfl, rfl, Lib.hid (by rw [List.drop_zero]), rfl⟩
  case round =>
    obtain ⟨j, hj, hk, rfl, HF, rfl⟩ := hrel
    have HK := Lib.hid hk
    clear hk
    by_cases hlt : j < n
    · have hje : j < es.length := by rw [← HN.out]; exact hlt
      obtain ⟨g, rfl, hnc, hcm, hat⟩ := HH.out.at HN.out (by omega)
      obtain ⟨d1, d2⟩ := hat wr (Chg.refl _ _) j hje
      have hdr : es.drop j = es[j] :: es.drop (j + 1) := List.drop_eq_getElem_cons hje
      obtain ⟨ej, hej⟩ : ∃ ej, es[j] = ej := ⟨_, rfl⟩
      rw [hej] at d1 d2 hdr
      have hmem : ej ∈ es := by rw [← hej]; exact List.getElem_mem _
      obtain ⟨_, hvo, hvs⟩ := HH.out.ent ej hmem
      obtain ⟨_, B, cb, hB⟩ := ownsRow_slice hvo
      rw [hB] at d2 hvo hvs
      have HD := Lib.hid hdr
      have HV := Lib.hid (And.intro hvo hvs)
      obtain ⟨bl, hbl⟩ : ∃ bl, bl = ej.body.length := ⟨_, rfl⟩
      rw [← hbl] at d2
      have HBL := Lib.hid hbl
      clear hat hvo hvs hej hje hdr hmem hB hbl
      have hcm : c ≤ 9223372036854775807 := hcm
      by_cases hx : ej.fn = fn
      · rw [hx] at d1
        have HX := Lib.hid hx
        clear hx
        go_wp2_with fail
        go_ret2
        have hf : es.find? (fun e => e.fn == fn) = some ej := by rw [HF.out, HD.out, List.find?_cons, HX.out]; simp
        rw [hf]
        refine ⟨⟨B, cb, by rw [HBL.out]; rfl, Src.of_row HV.out.1, fun k hk => (HV.out.2 k hk).1⟩, rfl⟩
      · obtain ⟨x, hxx⟩ : ∃ x, ej.fn = x := ⟨_, rfl⟩
        rw [hxx] at d1 hx
        have HX := Lib.hid (And.intro hxx hx)
        clear hxx
        go_wp2_with fail
        go_roundg (n - (j + 1))
        case measure => have := HK.out; omega
        case rel => exact ⟨j + 1, by omega, rfl, by go_num, Lib.hid (by
          have hb : (ej.fn == fn) = false := by rw [HX.out.1]; exact beq_eq_false_iff_ne.2 HX.out.2
          rw [HF.out, HD.out, List.find?_cons, hb]), rfl⟩
    · have hjn : j = es.length := by rw [← HN.out]; omega
      go_wp2_with fail
      go_ret2
      have hf : es.find? (fun e => e.fn == fn) = none := by rw [HF.out, hjn, List.drop_length]; rfl
      rw [hf]
      exact ⟨⟨none, 0, rfl, .inl ⟨⟨_, _, rfl⟩, rfl, rfl⟩, fun k hk => by cases hk⟩, rfl⟩

theorem insCells_append (a b : List InsR) : insCells (a ++ b) = insCells a ++ insCells b := by simp [insCells]
set_option maxHeartbeats 2000000 in
set_option maxRecDepth 100000 in
theorem rows_any {w : World} {v : Value} {body : List InsR} (hs : Src w v body.length (insCells body)) (hb : body.length ≤ 20) :
    Calls Try.prog 12 #[v] w fun e w' => ∃ ad cp, e = .returned (.slice (some ad) body.length cp) ∧ w'.ownsRow 0 62 3 (.slice (some ad) body.length cp) body.length (insCells body) ∧ (∀ k, (Value.slice (some ad) body.length cp).ownBlock = some k → w.heap.size ≤ k) ∧ Chg (fun _ => False) w w' := by
  have HS := Lib.hid hs
  obtain ⟨n, hN⟩ : ∃ n, n = body.length := ⟨_, rfl⟩
  obtain ⟨hnm, A, c, rfl⟩ := hs.bound
  rw [← hN] at hb HS ⊢
  have HN := Lib.hid hN
  obtain ⟨i1, hi, hz0, hz1, hz2⟩ := info_parts infoRIns
  clear hs hN hnm
  go_enter Try.func12, Try.ntmps12
  go_wp2_with fail
  go_loopg [3, 4] n (fun k v i wr => ∃ j : Nat, j ≤ n ∧ k = n - j ∧ i = .int .i64 j ∧ ∃ V cv, v = .slice (some V) j cv ∧ Hid (wr.ownsRow 0 62 3 (.slice (some V) j cv) j (insCells (body.take j))) ∧ Hid (∀ k, (Value.slice (some V) j cv).ownBlock = some k → w.heap.size ≤ k) ∧ Hid (Chg (fun _ => False) w wr))
  case atStart => exact ⟨0, by omega, rfl, rfl, ⟨w.heap.size, 0, none⟩, 0, rfl, Lib.hid ⟨rfl, .inr ⟨w.heap.size, 0, #[], rfl, Nat.zero_le _, heap_new _ _, Nat.le_refl _, by simp [maxLen], rfl, rfl⟩⟩, Lib.hid (fun k hk => Nat.le_of_eq (Option.some.inj hk)), Lib.hid ((Chg.refl _ _).alloc _)⟩
  case round =>
    obtain ⟨j, hj, hk, rfl, V, cv, rfl, HO, HV, HCH⟩ := hrel
    have HK := Lib.hid hk
    clear hk
    by_cases hlt : j < n
    · have hje : j < body.length := by rw [← HN.out]; exact hlt
      obtain ⟨f1, f2, f3⟩ := insCells_get body j hje
      have hsx := HS.out.kept HCH.out (.inr fun _ _ x => x)
      rcases hsx with ⟨_, h0, _⟩ | ⟨b, off, cap, e, _, hnc, hmx, hc⟩
      · omega
      injection e with e1 _ e3
      subst e1 e3
      have d1 := hc _ _ f1
      have d2 := hc _ _ f2
      have d3 := hc _ _ f3
      have ht := List.take_succ_eq_append_getElem hje
      rw [← Nat.add_assoc] at d2 d3
      obtain ⟨x, hx⟩ : ∃ x, body[j] = x := ⟨_, rfl⟩
      rw [hx] at d1 d2 d3 ht
      have HT := Lib.hid ht
      clear hc f1 f2 f3 ht hx hje
      obtain ⟨x1, x2, x3⟩ := x
      simp only at d1 d2 d3
      have hmx : n ≤ 9223372036854775807 := hmx
      go_wp2_with (at_builtin; refine wpList_append_lies _ rfl _ _ _ rfl 0 62 i1 _ 3 24 Try.underlying35 hi hz0 hz1 hz2 rfl (by omega) (.slice (some V) j cv) j _ rfl (HO.out.alloc _) ⟨wr.heap.size, 0, none⟩ 1 1 [.int .i64 x1, .int .i64 x2, .int .i64 x3] rfl rfl (World.news_of_block (cs := #[.int .i64 x1, .int .i64 x2, .int .i64 x3]) (t := 62) (fr := (0, 0)) (heap_new _ _)) (by simp [Value.oneCell']) (by omega) (by unfold maxLen; omega) (by omega) (by omega) (wr.heap.size + 1) (by simp) ?_; intro g2 cap2 w1 hown1 hgrow hat2 hlt2)
      go_roundg (n - (j + 1))
      case measure => have := HK.out; omega
      case rel =>
        refine ⟨j + 1, by omega, rfl, by go_num, _, cap2, rfl, Lib.hid ?_, Lib.hid (fun k hk => ?_), Lib.hid ((HCH.out.alloc _).grownBy hgrow (fun k hk hlt => by have := HV.out k hk; omega))⟩
        · rw [HT.out, insCells_append]; exact hown1
        · obtain rfl : g2 = k := by injection hk
          rcases hat2 with h2 | h2
          · exact HV.out _ h2
          · have := HCH.out.size; omega
    · obtain rfl : j = n := by omega
      go_wp2_with fail
      go_ret
      have hO := HO.out
      rw [HN.out, List.take_length] at hO
      rw [HN.out]
      exact ⟨V, cv, rfl, hO, by rw [← HN.out]; exact HV.out, HCH.out⟩
end Go.Proofs.Ythmjmggeihonnaa
