/- The document's labels: great, Of, part, find, exprs, stmts, Check. -/
import Derived.Test.YtnpmgnfohaeonaaLabSh
import Derived.Deep.CutRange
import Derived.Deep.CutBlock
namespace Go.Proofs.Ytnpmgnfohaeonaa
set_option linter.unusedVariables false
set_option linter.unusedSimpArgs false
open Go.RowKit

set_option maxRecDepth 100000 in
theorem rgreat_any (s : ByteArray) (w : World) : Calls Try.prog 25 #[.string s] w fun e w' => e = .returned (.bool (great s)) ∧ w' = w := by
  by_cases h : 0 < s.size
  · have h1 : ¬ s.toList = [] := fun e => by rw [toList_nil_iff] at e; omega
    have h2 : (!s.toList.isEmpty) = true := by cases hs : s.toList with
      | nil => exact absurd hs h1
      | cons a b => rfl
    obtain ⟨r, hr⟩ : ∃ r, great s = r := ⟨_, rfl⟩
    rw [hr]
    unfold great at hr
    rw [dif_pos h] at hr
    have HR := Lib.hid hr
    clear hr
    by_cases h3 : (65 : Int) ≤ ((s[0].toNat : Nat) : Int)
    · go_enter Try.func25, Try.ntmps25
      go_wp2_with fail
      go_ret
      refine ⟨?_, rfl⟩
      rw [← HR.out]
      simp [h3]
      omega
    · go_enter Try.func25, Try.ntmps25
      go_wp2_with fail
      go_ret
      refine ⟨?_, rfl⟩
      rw [← HR.out]
      rw [decide_eq_false (by omega)]
      rfl
  · have h1 : s.toList = [] := (toList_nil_iff s).2 (by omega)
    have e : great s = false := by unfold great; rw [dif_neg h]
    rw [e]
    clear e h
    go_enter Try.func25, Try.ntmps25
    go_wp2_with fail
    go_ret
    exact ⟨rfl, rfl⟩


set_option maxHeartbeats 4000000 in
set_option maxRecDepth 100000 in
theorem rof_any (k : Nat) : ∀ (t : ExprT), SizeOf.sizeOf t < k → ∀ (w : World) (X : Nat → Prop) (cs : List Value), IsExpr w X t cs → Calls Try.prog 14 #[.agg cs.toArray] w fun e w' => e = .returned (.bool (secE t)) ∧ Below w.heap.size w w' := by
  induction k with
  | zero => intro t h; omega
  | succ k ih =>
    intro t hk w X cs h
    cases h with
    | mk op n name l A c f hs hr h =>
      show Calls Try.prog 14 #[.agg #[.int .i64 op, .int .i64 n, .string name, .slice A l.length c]] w _
      rw [secE_eq]
      suffices hsuf : ∀ w0, w0 = w → Calls Try.prog 14 #[.agg #[.int .i64 op, .int .i64 n, .string name, .slice A l.length c]] w fun e w' => e = .returned (.bool (if op = 5 then great name else (op == 2 || op == 4) && great name || l.any secE)) ∧ Below w0.heap.size w0 w' from hsuf w rfl
      intro w0 hw0
      have hb0 : Below w0.heap.size w0 (w.alloc (.cells #[.int .i64 op, .int .i64 n, .string name, .slice A l.length c] 28)) := by rw [hw0]; exact (Below.refl _ _).alloc (Nat.le_refl _) _
      have hex : Exprs (w.alloc (.cells #[.int .i64 op, .int .i64 n, .string name, .slice A l.length c] 28)) X A c l := (show Exprs w X A c l from ⟨f, hr, h⟩).keep ((Below.refl _ _).alloc (Nat.le_refl _) _)
      have hsb : (w.alloc (.cells #[.int .i64 op, .int .i64 n, .string name, .slice A l.length c] 28)).heap[w.heap.size]? = some (.cells #[.int .i64 op, .int .i64 n, .string name, .slice A l.length c] 28 (0, 0)) := heap_new _ _
      have HSB : Hid (∀ wx, Below (w.alloc (.cells #[.int .i64 op, .int .i64 n, .string name, .slice A l.length c] 28)).heap.size (w.alloc (.cells #[.int .i64 op, .int .i64 n, .string name, .slice A l.length c] 28)) wx → wx.cell? ⟨w.heap.size, 3, none⟩ = some (.slice A l.length c)) := Lib.hid (fun wx hb => cell_of_block ((Below.chg hb).heap hsb (fun x => x)) 3)
      have HIH : Hid (∀ x ∈ l, ∀ (w' : World) (cs : List Value), IsExpr w' X x cs → Calls Try.prog 14 #[.agg cs.toArray] w' fun e w'' => e = .returned (.bool (secE x)) ∧ Below w'.heap.size w' w'') := Lib.hid (fun x hx w' cs hie => ih x (by have := size_mem hx op n name; omega) w' X cs hie)
      have HE := Lib.hid hex
      have HB0 := Lib.hid hb0
      have hmx : l.length ≤ 8796093022208 := hr.max
      clear ih hr h hex hb0 hk hw0
      obtain ⟨ra, hra⟩ : ∃ ra, l.any secE = ra := ⟨_, rfl⟩
      rw [hra]
      have HRA := Lib.hid hra
      clear hra
      obtain ⟨m, hm⟩ : ∃ m, m = l.length := ⟨_, rfl⟩
      rw [← hm] at hmx hsb HSB ⊢
      have HM := Lib.hid hm
      have d0 := cell_of_block hsb 0
      have d2 := cell_of_block hsb 2
      have d3 := cell_of_block hsb 3
      rw [← hm] at HB0 HE
      simp at d0 d2 d3
      clear hsb hm
      obtain ⟨g, hg⟩ : ∃ g, great name = g := ⟨_, rfl⟩
      rw [hg]
      have HG := Lib.hid hg
      clear hg
      have hcs : op = 2 ∨ op = 4 ∨ op = 5 ∨ (¬ op = 2 ∧ ¬ op = 4 ∧ ¬ op = 5) := by omega
      rcases hcs with rfl | rfl | rfl | ⟨h2, h4, h5⟩
      · rw [show (if (2 : Int) = 5 then g else ((2 : Int) == 2 || (2 : Int) == 4) && g || ra) = (g || ra) from rfl]
        go_enter Try.func14, Try.ntmps14
        go_wp2_with fail
        refine (rgreat_any _ _).mono ?_; rintro e w1 ⟨rfl, rfl⟩
        rw [HG.out]
        cases g with
        | true =>
          go_wp2_with fail
          go_ret
          exact ⟨by simp, HB0.out⟩
        | false =>
          go_wp2_with fail
          generalize (w.alloc (.cells #[.int .i64 2, .int .i64 n, .string name, .slice A m c] 28)) = wa at *
          go_loopg [3] m (fun k v wr => ∃ j : Nat, j ≤ m ∧ k = m - j ∧ v = .int .i64 j ∧ Hid ((l.take j).any secE = false) ∧ Hid (Below wa.heap.size wa wr))
          case atStart => exact ⟨0, by omega, rfl, rfl, Lib.hid rfl, Lib.hid (Below.refl _ _)⟩
          case round =>
            clear d0 d2 d3
            obtain ⟨j, hj, hk2, rfl, HT, HB⟩ := hrel
            have HK := Lib.hid hk2
            clear hk2
            have e3 := HSB.out wr HB.out
            by_cases hlt : j < m
            · have hjl : j < l.length := by rw [← HM.out]; exact hlt
              obtain ⟨b, off, o2, n2, s2, B2, lc, cc, rfl, hie, hc⟩ := HE.out.get j hjl
              obtain ⟨q0, q1, q2, q3⟩ := hc wr HB.out
              have hpj := HIH.out l[j] (List.getElem_mem _) wr _ (hie.keep HB.out)
              have htk := List.take_succ_eq_append_getElem hjl
              generalize l[j] = x at *
              have HPJ := Lib.hid hpj
              have HTK := Lib.hid htk
              clear hc hie hpj htk hjl
              obtain ⟨r, hr⟩ : ∃ r, secE x = r := ⟨_, rfl⟩
              rw [hr] at HPJ
              have HR := Lib.hid hr
              clear hr
              cases r with
              | true =>
                go_wp2_with fail
                refine HPJ.out.mono ?_; rintro e w1 ⟨rfl, hb1⟩
                go_wp2_with fail
                go_ret
                refine ⟨?_, HB0.out.trans ((bel_trans HB.out hb1).mono HB0.out.size)⟩
                have : l.any secE = true := by
                  have : l = l.take (j + 1) ++ l.drop (j + 1) := (List.take_append_drop _ _).symm
                  rw [this, HTK.out, List.any_append, List.any_append]
                  simp [HR.out]
                rw [HRA.out] at this
                rw [this]
                rfl
              | false =>
                go_wp2_with fail
                refine HPJ.out.mono ?_; rintro e w1 ⟨rfl, hb1⟩
                go_wp2_with fail
                go_roundg (m - (j + 1))
                case measure => have := HK.out; omega
                case rel => exact ⟨j + 1, by omega, rfl, by go_num, Lib.hid (by rw [HTK.out, List.any_append, HT.out]; simp [HR.out]), Lib.hid (bel_trans HB.out hb1)⟩
            · have hjn : j = l.length := by rw [← HM.out]; omega
              go_wp2_with fail
              go_ret
              refine ⟨?_, HB0.out.trans (HB.out.mono HB0.out.size)⟩
              have h := HT.out
              rw [hjn, List.take_length, HRA.out] at h
              rw [h]
              rfl
      · rw [show (if (4 : Int) = 5 then g else ((4 : Int) == 2 || (4 : Int) == 4) && g || ra) = (g || ra) from rfl]
        go_enter Try.func14, Try.ntmps14
        go_wp2_with fail
        refine (rgreat_any _ _).mono ?_; rintro e w1 ⟨rfl, rfl⟩
        rw [HG.out]
        cases g with
        | true =>
          go_wp2_with fail
          go_ret
          exact ⟨by simp, HB0.out⟩
        | false =>
          go_wp2_with fail
          generalize (w.alloc (.cells #[.int .i64 4, .int .i64 n, .string name, .slice A m c] 28)) = wa at *
          go_loopg [3] m (fun k v wr => ∃ j : Nat, j ≤ m ∧ k = m - j ∧ v = .int .i64 j ∧ Hid ((l.take j).any secE = false) ∧ Hid (Below wa.heap.size wa wr))
          case atStart => exact ⟨0, by omega, rfl, rfl, Lib.hid rfl, Lib.hid (Below.refl _ _)⟩
          case round =>
            clear d0 d2 d3
            obtain ⟨j, hj, hk2, rfl, HT, HB⟩ := hrel
            have HK := Lib.hid hk2
            clear hk2
            have e3 := HSB.out wr HB.out
            by_cases hlt : j < m
            · have hjl : j < l.length := by rw [← HM.out]; exact hlt
              obtain ⟨b, off, o2, n2, s2, B2, lc, cc, rfl, hie, hc⟩ := HE.out.get j hjl
              obtain ⟨q0, q1, q2, q3⟩ := hc wr HB.out
              have hpj := HIH.out l[j] (List.getElem_mem _) wr _ (hie.keep HB.out)
              have htk := List.take_succ_eq_append_getElem hjl
              generalize l[j] = x at *
              have HPJ := Lib.hid hpj
              have HTK := Lib.hid htk
              clear hc hie hpj htk hjl
              obtain ⟨r, hr⟩ : ∃ r, secE x = r := ⟨_, rfl⟩
              rw [hr] at HPJ
              have HR := Lib.hid hr
              clear hr
              cases r with
              | true =>
                go_wp2_with fail
                refine HPJ.out.mono ?_; rintro e w1 ⟨rfl, hb1⟩
                go_wp2_with fail
                go_ret
                refine ⟨?_, HB0.out.trans ((bel_trans HB.out hb1).mono HB0.out.size)⟩
                have : l.any secE = true := by
                  have : l = l.take (j + 1) ++ l.drop (j + 1) := (List.take_append_drop _ _).symm
                  rw [this, HTK.out, List.any_append, List.any_append]
                  simp [HR.out]
                rw [HRA.out] at this
                rw [this]
                rfl
              | false =>
                go_wp2_with fail
                refine HPJ.out.mono ?_; rintro e w1 ⟨rfl, hb1⟩
                go_wp2_with fail
                go_roundg (m - (j + 1))
                case measure => have := HK.out; omega
                case rel => exact ⟨j + 1, by omega, rfl, by go_num, Lib.hid (by rw [HTK.out, List.any_append, HT.out]; simp [HR.out]), Lib.hid (bel_trans HB.out hb1)⟩
            · have hjn : j = l.length := by rw [← HM.out]; omega
              go_wp2_with fail
              go_ret
              refine ⟨?_, HB0.out.trans (HB.out.mono HB0.out.size)⟩
              have h := HT.out
              rw [hjn, List.take_length, HRA.out] at h
              rw [h]
              rfl
      · rw [if_pos rfl]
        go_enter Try.func14, Try.ntmps14
        go_wp2_with fail
        refine (rgreat_any _ _).mono ?_; rintro e w1 ⟨rfl, rfl⟩
        rw [HG.out]
        cases g with
        | true =>
          go_wp2_with fail
          go_ret
          exact ⟨rfl, HB0.out⟩
        | false =>
          go_wp2_with fail
          go_ret
          exact ⟨rfl, HB0.out⟩
      · rw [if_neg h5]
        have e : (op == 2 || op == 4) = false := by simp [h2, h4]
        rw [e]
        clear e
        have e2 : (op == 2) = false := beq_eq_false_iff_ne.2 h2
        have e4 : (op == 4) = false := beq_eq_false_iff_ne.2 h4
        have e5 : (op == 5) = false := beq_eq_false_iff_ne.2 h5
        go_enter Try.func14, Try.ntmps14
        go_wp2_with fail
        generalize (w.alloc (.cells #[.int .i64 op, .int .i64 n, .string name, .slice A m c] 28)) = wa at *
        go_loopg [3] m (fun k v wr => ∃ j : Nat, j ≤ m ∧ k = m - j ∧ v = .int .i64 j ∧ Hid ((l.take j).any secE = false) ∧ Hid (Below wa.heap.size wa wr))
        case atStart => exact ⟨0, by omega, rfl, rfl, Lib.hid rfl, Lib.hid (Below.refl _ _)⟩
        case round =>
          clear d0 d2 d3
          obtain ⟨j, hj, hk2, rfl, HT, HB⟩ := hrel
          have HK := Lib.hid hk2
          clear hk2
          have e3 := HSB.out wr HB.out
          by_cases hlt : j < m
          · have hjl : j < l.length := by rw [← HM.out]; exact hlt
            obtain ⟨b, off, o2, n2, s2, B2, lc, cc, rfl, hie, hc⟩ := HE.out.get j hjl
            obtain ⟨q0, q1, q2, q3⟩ := hc wr HB.out
            have hpj := HIH.out l[j] (List.getElem_mem _) wr _ (hie.keep HB.out)
            have htk := List.take_succ_eq_append_getElem hjl
            generalize l[j] = x at *
            have HPJ := Lib.hid hpj
            have HTK := Lib.hid htk
            clear hc hie hpj htk hjl
            obtain ⟨r, hr⟩ : ∃ r, secE x = r := ⟨_, rfl⟩
            rw [hr] at HPJ
            have HR := Lib.hid hr
            clear hr
            cases r with
            | true =>
              go_wp2_with fail
              refine HPJ.out.mono ?_; rintro e w1 ⟨rfl, hb1⟩
              go_wp2_with fail
              go_ret
              refine ⟨?_, HB0.out.trans ((bel_trans HB.out hb1).mono HB0.out.size)⟩
              have : l.any secE = true := by
                have : l = l.take (j + 1) ++ l.drop (j + 1) := (List.take_append_drop _ _).symm
                rw [this, HTK.out, List.any_append, List.any_append]
                simp [HR.out]
              rw [HRA.out] at this
              rw [this]
              rfl
            | false =>
              go_wp2_with fail
              refine HPJ.out.mono ?_; rintro e w1 ⟨rfl, hb1⟩
              go_wp2_with fail
              go_roundg (m - (j + 1))
              case measure => have := HK.out; omega
              case rel => exact ⟨j + 1, by omega, rfl, by go_num, Lib.hid (by rw [HTK.out, List.any_append, HT.out]; simp [HR.out]), Lib.hid (bel_trans HB.out hb1)⟩
          · have hjn : j = l.length := by rw [← HM.out]; omega
            go_wp2_with fail
            go_ret
            refine ⟨?_, HB0.out.trans (HB.out.mono HB0.out.size)⟩
            have h := HT.out
            rw [hjn, List.take_length, HRA.out] at h
            rw [h]
            rfl
theorem rof_tree {t : ExprT} {w : World} {X : Nat → Prop} {cs : List Value} (h : IsExpr w X t cs) : Calls Try.prog 14 #[.agg cs.toArray] w fun e w' => e = .returned (.bool (secE t)) ∧ Below w.heap.size w w' := rof_any (SizeOf.sizeOf t + 1) t (Nat.lt_succ_self _) w X cs h
set_option maxHeartbeats 1000000 in
set_option maxRecDepth 100000 in
theorem rpart_any {w : World} {X : Nat → Prop} {A : Option Addr} {c : Nat} {l : List ExprT} (h : Exprs w X A c l) (i : Nat) (hi : i ≤ 8796093022208) :
    Calls Try.prog 32 #[.slice A l.length c, .int .i64 i] w fun e w' => e = .returned (.bool (leaksv l i)) ∧ Below w.heap.size w w' := by
  have hmx : l.length ≤ 8796093022208 := by obtain ⟨f, h1, _⟩ := h; exact h1.max
  by_cases hl : i < l.length
  · obtain ⟨b, off, op, n, name, B, lc, cc, rfl, hie, hc⟩ := h.get i hl
    obtain ⟨d0, d1, d2, d3⟩ := hc w (Below.refl _ _)
    have e : leaksv l i = secE l[i] := by unfold leaksv; rw [List.getElem?_eq_getElem hl]; rfl
    rw [e]
    have CO := Lib.hid (rof_tree hie)
    clear h hie hc e
    generalize secE l[i] = r at *
    have hli : (i : Int) < (l.length : Int) := by omega
    generalize l.length = m at *
    go_enter Try.func32, Try.ntmps32
    go_wp2_with fail
    refine CO.out.mono ?_; rintro e w1 ⟨rfl, hb1⟩
    go_wp2_with fail
    go_ret
    exact ⟨rfl, hb1⟩
  · have e : leaksv l i = false := by unfold leaksv; rw [List.getElem?_eq_none (by omega)]; rfl
    rw [e]
    clear h e
    generalize l.length = m at *
    go_enter Try.func32, Try.ntmps32
    go_wp2_with fail
    go_ret
    exact ⟨rfl, Below.refl _ _⟩

theorem bytes_eq {a b : ByteArray} (h : a.toList = b.toList) : a = b := by
  rw [ByteArray.toList_eq, ByteArray.toList_eq] at h
  exact keyL_inj (by unfold keyL; rw [h])
set_option maxHeartbeats 2000000 in
set_option maxRecDepth 100000 in
theorem rfind_any {w : World} {X : Nat → Prop} {A B : Option Addr} {c kb cb : Nat} {fs : List FuncT} (hF : Funcs w X A c fs) (name : ByteArray) :
    Calls Try.prog 35 #[.agg #[.slice A fs.length c, .slice B kb cb], .string name] w fun e w' => (∃ PA pc, e = .returned (.slice PA (prms fs name).length pc) ∧ Strs w' X PA pc (prms fs name)) ∧ Below w.heap.size w w' := by
  obtain ⟨fv, hF⟩ := hF
  have hmx := hF.1.max
  have hF0 : FuncsV (w.alloc (.cells #[.slice A fs.length c, .slice B kb cb] 25)) X A c fs fv := hF.kept ((Chg.refl (fun _ => False) _).alloc _) (fun _ _ x => x)
  have hb0 : Below w.heap.size w (w.alloc (.cells #[.slice A fs.length c, .slice B kb cb] 25)) := (Below.refl _ _).alloc (Nat.le_refl _) _
  have hsb : (w.alloc (.cells #[.slice A fs.length c, .slice B kb cb] 25)).heap[w.heap.size]? = some (.cells #[.slice A fs.length c, .slice B kb cb] 25 (0, 0)) := heap_new _ _
  have HF := Lib.hid hF0
  have HB0 := Lib.hid hb0
  clear hF hF0 hb0
  obtain ⟨m, hm⟩ : ∃ m, m = fs.length := ⟨_, rfl⟩
  rw [← hm] at hmx hsb HF HB0 ⊢
  have HM := Lib.hid hm
  have HSB := Lib.hid hsb
  clear hsb hm
  go_enter Try.func35, Try.ntmps35
  go_wp2_with fail
  generalize (w.alloc (.cells #[.slice A m c, .slice B kb cb] 25)) = wa at *
  have d0 := cell_of_block HSB.out 0
  simp at d0
  go_loopg [5] m (fun k v wr => ∃ j : Nat, j ≤ m ∧ k = m - j ∧ v = .int .i64 j ∧ Hid (fs.find? (fun f => decide (f.name = name)) = (fs.drop j).find? (fun f => decide (f.name = name))) ∧ wr = wa)
  case atStart => exact ⟨0, by omega, rfl, rfl, Lib.hid (by rw [List.drop_zero]), rfl⟩
  case round =>
    obtain ⟨j, hj, hk2, rfl, HT, rfl⟩ := hrel
    have HK := Lib.hid hk2
    clear hk2
    by_cases hlt : j < m
    · have hjl : j < fs.length := by rw [← HM.out]; exact hlt
      obtain ⟨b, off, rfl, hx⟩ := HF.out.1.at_ (by omega)
      have hat := (hx j (by rw [← HM.out]; exact hlt)).2.2
      have q0 := hat 0 _ rfl
      have q1 := hat 1 _ rfl
      have hif := HF.out.2 j fs[j] (List.getElem?_eq_getElem hjl)
      have hdr : fs.drop j = fs[j] :: fs.drop (j + 1) := List.drop_eq_getElem_cons hjl
      obtain ⟨fx, hfx⟩ : ∃ fx, fs[j] = fx := ⟨_, rfl⟩
      rw [hfx] at hif hdr
      have hn := hif.name
      have hpn := hif.pn
      have hst := hif.params
      obtain ⟨v, hv⟩ : ∃ v, fv j = v := ⟨_, rfl⟩
      rw [hv] at q0 q1 hn hpn hst
      obtain ⟨vn, vpa, vpn, vpc, vba, vbn, vbc⟩ := v
      simp only [Nat.add_zero] at q0 q1 hn hpn hst
      subst hn
      have HD := Lib.hid hdr
      have HV := Lib.hid (And.intro hpn hst)
      clear hx hat hif hfx hdr hpn hst hv hjl
      by_cases hnm : fx.name = name
      · have HNM := Lib.hid hnm
        rw [hnm] at q0
        clear hnm
        go_wp2_with fail
        go_ret
        have hf : prms fs name = fx.params := by
          unfold prms
          rw [HT.out, HD.out, List.find?_cons, decide_eq_true HNM.out]
          rfl
        rw [hf]
        exact ⟨⟨vpa, vpc, by rw [← HV.out.1]; rfl, HV.out.2⟩, HB0.out⟩
      · obtain ⟨nm2, hnm2⟩ : ∃ nm2, fx.name = nm2 := ⟨_, rfl⟩
        rw [hnm2] at q0 hnm
        have HNM := Lib.hid (And.intro hnm2 hnm)
        have hls : (nm2.toList == name.toList) = false := beq_eq_false_iff_ne.2 (fun e => hnm (bytes_eq e))
        clear hnm2
        go_wp2_with fail
        go_roundg (m - (j + 1))
        case measure => have := HK.out; omega
        case rel => exact ⟨j + 1, by omega, rfl, by go_num, Lib.hid (by
          rw [HT.out, HD.out, List.find?_cons]
          have h := HNM.out
          rw [h.1, decide_eq_false h.2]), rfl⟩
    · have hjn : j = fs.length := by rw [← HM.out]; omega
      go_wp2_with fail
      go_ret
      have hf : prms fs name = [] := by
        unfold prms
        rw [HT.out, hjn, List.drop_length]
        rfl
      rw [hf]
      exact ⟨⟨none, 0, rfl, strs_nil _ _⟩, HB0.out⟩
end Go.Proofs.Ytnpmgnfohaeonaa
