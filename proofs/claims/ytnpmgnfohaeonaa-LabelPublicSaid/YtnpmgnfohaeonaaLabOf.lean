/- label: Of, leaks; rows of trees that are asked one by one. -/
import Derived.Test.YtnpmgnfohaeonaaLabA
namespace Go.Proofs.Ytnpmgnfohaeonaa
set_option linter.unusedVariables false
set_option linter.unusedSimpArgs false
open Go.RowKit

set_option maxHeartbeats 2000000 in
set_option maxRecDepth 100000 in
theorem ofIdx {w : World} {X : Nat → Prop} {A : Option Addr} {c : Nat} {l : List ExprT} (p : ExprT → Bool) (h : Exprs w X A c l)
    (hp : ∀ x ∈ l, ∀ (w' : World) cs, Below w.heap.size w w' → IsExpr w' X x cs → Calls Try.prog 13 #[(.agg cs.toArray)] w' fun e w'' => e = .returned (.bool (p x)) ∧ Below w'.heap.size w' w'') :
    Calls Try.prog 34 #[.slice A l.length c, .func (.func 13) #[] #[]] w fun e w' => ∃ i : Int, e = .returned (.int .i64 i) ∧ decide (i ≥ 0) = l.any p ∧ Below w.heap.size w w' := by
  have HH := Lib.hid h
  have HP := Lib.hid hp
  obtain ⟨n, hN⟩ : ∃ n, n = l.length := ⟨_, rfl⟩
  have hmx : n ≤ 8796093022208 := by obtain ⟨f, h1, _⟩ := h; rw [hN]; exact h1.max
  rw [← hN]
  have HN := Lib.hid hN
  clear h hp hN
  go_enter Try.func34, Try.ntmps34
  go_wp2_with fail
  go_loopg [8] n (fun k v wr => ∃ j : Nat, j ≤ n ∧ k = n - j ∧ v = .int .i64 j ∧ Hid ((l.take j).any p = false) ∧ Hid (Below w.heap.size w wr))
  case atStart => exact ⟨0, by omega, rfl, rfl, Lib.hid rfl, Lib.hid (Below.refl _ _)⟩
  case round =>
    obtain ⟨j, hj, hk, rfl, HT, HB⟩ := hrel
    have HK := Lib.hid hk
    clear hk
    by_cases hlt : j < n
    · have hjl : j < l.length := by rw [← HN.out]; exact hlt
      obtain ⟨b, off, op, n', name, B, lc, cc, rfl, hie, hc⟩ := HH.out.get j hjl
      obtain ⟨d0, d1, d2, d3⟩ := hc wr HB.out
      have hpj := HP.out l[j] (List.getElem_mem _) wr _ HB.out (hie.kept (Below.chg HB.out) (fun _ _ x => x))
      have htk := List.take_succ_eq_append_getElem hjl
      generalize l[j] = x at *
      have HPJ := Lib.hid hpj
      have HTK := Lib.hid htk
      clear hc hie hpj htk hjl
      obtain ⟨r, hr⟩ : ∃ r, p x = r := ⟨_, rfl⟩
      rw [hr] at HPJ
      have HR := Lib.hid hr
      clear hr
      cases r with
      | true =>
        go_wp2_with fail
        refine HPJ.out.mono ?_; rintro e w1 ⟨rfl, hb1⟩
        go_wp2_with fail
        go_ret
        refine ⟨_, rfl, ?_, bel_trans HB.out hb1⟩
        rw [decide_eq_true (by omega)]
        have : l = l.take (j + 1) ++ l.drop (j + 1) := (List.take_append_drop _ _).symm
        rw [this, HTK.out, List.any_append, List.any_append]
        simp [HR.out]
      | false =>
        go_wp2_with fail
        refine HPJ.out.mono ?_; rintro e w1 ⟨rfl, hb1⟩
        go_wp2_with fail
        go_roundg (n - (j + 1))
        case measure => have := HK.out; omega
        case rel => exact ⟨j + 1, by omega, rfl, by go_num, Lib.hid (by rw [HTK.out, List.any_append, HT.out]; simp [HR.out]), Lib.hid (bel_trans HB.out hb1)⟩
    · have hjn : j = l.length := by rw [← HN.out]; omega
      go_wp2_with fail
      go_ret
      refine ⟨_, rfl, ?_, HB.out⟩
      have h := HT.out
      rw [hjn, List.take_length] at h
      rw [h]
      rfl
set_option maxHeartbeats 2000000 in
set_option maxRecDepth 100000 in
theorem ofHas {w : World} {X : Nat → Prop} {A : Option Addr} {c : Nat} {l : List ExprT} (p : ExprT → Bool) (h : Exprs w X A c l)
    (hp : ∀ x ∈ l, ∀ (w' : World) cs, Below w.heap.size w w' → IsExpr w' X x cs → Calls Try.prog 13 #[(.agg cs.toArray)] w' fun e w'' => e = .returned (.bool (p x)) ∧ Below w'.heap.size w' w'') :
    Calls Try.prog 26 #[.slice A l.length c, .func (.func 13) #[] #[]] w fun e w' => e = .returned (.bool (l.any p)) ∧ Below w.heap.size w w' := by
  have CI := Lib.hid (ofIdx p h hp)
  clear hp h
  generalize l.any p = r at *
  generalize l.length = n at *
  go_enter Try.func26, Try.ntmps26
  go_wp2_with fail
  refine CI.out.mono ?_; rintro e w1 ⟨i, rfl, hi, hb⟩
  have HI := Lib.hid hi
  clear hi
  go_wp2_with fail
  go_ret
  exact ⟨by rw [← HI.out]; rfl, hb⟩

set_option maxHeartbeats 2000000 in
set_option maxRecDepth 100000 in
theorem ceIdx {w : World} {X : Nat → Prop} {A : Option Addr} {c : Nat} {l : List ExprT} (ck : Nat) (p : ExprT → Bool) (h : Exprs w X A c l)
    (hp : ∀ x ∈ l, ∀ (w' : World) cs, Below w.heap.size w w' → IsExpr w' X x cs → Calls Try.prog 31 #[.pointer (some ⟨ck, 0, none⟩), (.agg cs.toArray)] w' fun e w'' => e = .returned (.bool (p x)) ∧ Below w'.heap.size w' w'') :
    Calls Try.prog 34 #[.slice A l.length c, .func (.func 31) #[.pointer (some ⟨ck, 0, none⟩)] #[]] w fun e w' => ∃ i : Int, e = .returned (.int .i64 i) ∧ decide (i ≥ 0) = l.any p ∧ Below w.heap.size w w' := by
  have HH := Lib.hid h
  have HP := Lib.hid hp
  obtain ⟨n, hN⟩ : ∃ n, n = l.length := ⟨_, rfl⟩
  have hmx : n ≤ 8796093022208 := by obtain ⟨f, h1, _⟩ := h; rw [hN]; exact h1.max
  rw [← hN]
  have HN := Lib.hid hN
  clear h hp hN
  go_enter Try.func34, Try.ntmps34
  go_wp2_with fail
  go_loopg [8] n (fun k v wr => ∃ j : Nat, j ≤ n ∧ k = n - j ∧ v = .int .i64 j ∧ Hid ((l.take j).any p = false) ∧ Hid (Below w.heap.size w wr))
  case atStart => exact ⟨0, by omega, rfl, rfl, Lib.hid rfl, Lib.hid (Below.refl _ _)⟩
  case round =>
    obtain ⟨j, hj, hk, rfl, HT, HB⟩ := hrel
    have HK := Lib.hid hk
    clear hk
    by_cases hlt : j < n
    · have hjl : j < l.length := by rw [← HN.out]; exact hlt
      obtain ⟨b, off, op, n', name, B, lc, cc, rfl, hie, hc⟩ := HH.out.get j hjl
      obtain ⟨d0, d1, d2, d3⟩ := hc wr HB.out
      have hpj := HP.out l[j] (List.getElem_mem _) wr _ HB.out (hie.kept (Below.chg HB.out) (fun _ _ x => x))
      have htk := List.take_succ_eq_append_getElem hjl
      generalize l[j] = x at *
      have HPJ := Lib.hid hpj
      have HTK := Lib.hid htk
      clear hc hie hpj htk hjl
      obtain ⟨r, hr⟩ : ∃ r, p x = r := ⟨_, rfl⟩
      rw [hr] at HPJ
      have HR := Lib.hid hr
      clear hr
      cases r with
      | true =>
        go_wp2_with fail
        refine HPJ.out.mono ?_; rintro e w1 ⟨rfl, hb1⟩
        go_wp2_with fail
        go_ret
        refine ⟨_, rfl, ?_, bel_trans HB.out hb1⟩
        rw [decide_eq_true (by omega)]
        have : l = l.take (j + 1) ++ l.drop (j + 1) := (List.take_append_drop _ _).symm
        rw [this, HTK.out, List.any_append, List.any_append]
        simp [HR.out]
      | false =>
        go_wp2_with fail
        refine HPJ.out.mono ?_; rintro e w1 ⟨rfl, hb1⟩
        go_wp2_with fail
        go_roundg (n - (j + 1))
        case measure => have := HK.out; omega
        case rel => exact ⟨j + 1, by omega, rfl, by go_num, Lib.hid (by rw [HTK.out, List.any_append, HT.out]; simp [HR.out]), Lib.hid (bel_trans HB.out hb1)⟩
    · have hjn : j = l.length := by rw [← HN.out]; omega
      go_wp2_with fail
      go_ret
      refine ⟨_, rfl, ?_, HB.out⟩
      have h := HT.out
      rw [hjn, List.take_length] at h
      rw [h]
      rfl
set_option maxHeartbeats 2000000 in
set_option maxRecDepth 100000 in
theorem ceHas {w : World} {X : Nat → Prop} {A : Option Addr} {c : Nat} {l : List ExprT} (ck : Nat) (p : ExprT → Bool) (h : Exprs w X A c l)
    (hp : ∀ x ∈ l, ∀ (w' : World) cs, Below w.heap.size w w' → IsExpr w' X x cs → Calls Try.prog 31 #[.pointer (some ⟨ck, 0, none⟩), (.agg cs.toArray)] w' fun e w'' => e = .returned (.bool (p x)) ∧ Below w'.heap.size w' w'') :
    Calls Try.prog 26 #[.slice A l.length c, .func (.func 31) #[.pointer (some ⟨ck, 0, none⟩)] #[]] w fun e w' => e = .returned (.bool (l.any p)) ∧ Below w.heap.size w w' := by
  have CI := Lib.hid (ceIdx ck p h hp)
  clear hp h
  generalize l.any p = r at *
  generalize l.length = n at *
  go_enter Try.func26, Try.ntmps26
  go_wp2_with fail
  refine CI.out.mono ?_; rintro e w1 ⟨i, rfl, hi, hb⟩
  have HI := Lib.hid hi
  clear hi
  go_wp2_with fail
  go_ret
  exact ⟨by rw [← HI.out]; rfl, hb⟩

set_option maxHeartbeats 2000000 in
set_option maxRecDepth 100000 in
theorem csIdx {w : World} {X : Nat → Prop} {A : Option Addr} {c : Nat} {l : List StmtT} (ck : Nat) (p : StmtT → Bool) (h : Stmts w X A c l)
    (hp : ∀ x ∈ l, ∀ (w' : World) cs, Below w.heap.size w w' → IsStmt w' X x cs → Calls Try.prog 23 #[.pointer (some ⟨ck, 0, none⟩), (.agg cs.toArray)] w' fun e w'' => e = .returned (.bool (p x)) ∧ Below w'.heap.size w' w'') :
    Calls Try.prog 29 #[.slice A l.length c, .func (.func 23) #[.pointer (some ⟨ck, 0, none⟩)] #[]] w fun e w' => ∃ i : Int, e = .returned (.int .i64 i) ∧ decide (i ≥ 0) = l.any p ∧ Below w.heap.size w w' := by
  have HH := Lib.hid h
  have HP := Lib.hid hp
  obtain ⟨n, hN⟩ : ∃ n, n = l.length := ⟨_, rfl⟩
  have hmx : n ≤ 8796093022208 := by obtain ⟨f, h1, _⟩ := h; rw [hN]; exact h1.max
  rw [← hN]
  have HN := Lib.hid hN
  clear h hp hN
  go_enter Try.func29, Try.ntmps29
  go_wp2_with fail
  go_loopg [8] n (fun k v wr => ∃ j : Nat, j ≤ n ∧ k = n - j ∧ v = .int .i64 j ∧ Hid ((l.take j).any p = false) ∧ Hid (Below w.heap.size w wr))
  case atStart => exact ⟨0, by omega, rfl, rfl, Lib.hid rfl, Lib.hid (Below.refl _ _)⟩
  case round =>
    obtain ⟨j, hj, hk, rfl, HT, HB⟩ := hrel
    have HK := Lib.hid hk
    clear hk
    by_cases hlt : j < n
    · have hjl : j < l.length := by rw [← HN.out]; exact hlt
      obtain ⟨b, off, op, name, n', B, lc, cc, B2, l2, c2, B3, l3, c3, rfl, hie, hc⟩ := HH.out.get j hjl
      obtain ⟨d0, d1, d2, d3, d4, d5⟩ := hc wr HB.out
      have hpj := HP.out l[j] (List.getElem_mem _) wr _ HB.out (hie.kept (Below.chg HB.out) (fun _ _ x => x))
      have htk := List.take_succ_eq_append_getElem hjl
      generalize l[j] = x at *
      have HPJ := Lib.hid hpj
      have HTK := Lib.hid htk
      clear hc hie hpj htk hjl
      obtain ⟨r, hr⟩ : ∃ r, p x = r := ⟨_, rfl⟩
      rw [hr] at HPJ
      have HR := Lib.hid hr
      clear hr
      cases r with
      | true =>
        go_wp2_with fail
        refine HPJ.out.mono ?_; rintro e w1 ⟨rfl, hb1⟩
        go_wp2_with fail
        go_ret
        refine ⟨_, rfl, ?_, bel_trans HB.out hb1⟩
        rw [decide_eq_true (by omega)]
        have : l = l.take (j + 1) ++ l.drop (j + 1) := (List.take_append_drop _ _).symm
        rw [this, HTK.out, List.any_append, List.any_append]
        simp [HR.out]
      | false =>
        go_wp2_with fail
        refine HPJ.out.mono ?_; rintro e w1 ⟨rfl, hb1⟩
        go_wp2_with fail
        go_roundg (n - (j + 1))
        case measure => have := HK.out; omega
        case rel => exact ⟨j + 1, by omega, rfl, by go_num, Lib.hid (by rw [HTK.out, List.any_append, HT.out]; simp [HR.out]), Lib.hid (bel_trans HB.out hb1)⟩
    · have hjn : j = l.length := by rw [← HN.out]; omega
      go_wp2_with fail
      go_ret
      refine ⟨_, rfl, ?_, HB.out⟩
      have h := HT.out
      rw [hjn, List.take_length] at h
      rw [h]
      rfl
set_option maxHeartbeats 2000000 in
set_option maxRecDepth 100000 in
theorem csHas {w : World} {X : Nat → Prop} {A : Option Addr} {c : Nat} {l : List StmtT} (ck : Nat) (p : StmtT → Bool) (h : Stmts w X A c l)
    (hp : ∀ x ∈ l, ∀ (w' : World) cs, Below w.heap.size w w' → IsStmt w' X x cs → Calls Try.prog 23 #[.pointer (some ⟨ck, 0, none⟩), (.agg cs.toArray)] w' fun e w'' => e = .returned (.bool (p x)) ∧ Below w'.heap.size w' w'') :
    Calls Try.prog 22 #[.slice A l.length c, .func (.func 23) #[.pointer (some ⟨ck, 0, none⟩)] #[]] w fun e w' => e = .returned (.bool (l.any p)) ∧ Below w.heap.size w w' := by
  have CI := Lib.hid (csIdx ck p h hp)
  clear hp h
  generalize l.any p = r at *
  generalize l.length = n at *
  go_enter Try.func22, Try.ntmps22
  go_wp2_with fail
  refine CI.out.mono ?_; rintro e w1 ⟨i, rfl, hi, hb⟩
  have HI := Lib.hid hi
  clear hi
  go_wp2_with fail
  go_ret
  exact ⟨by rw [← HI.out]; rfl, hb⟩

/-- secret (G1) -/
def secE : ExprT → Bool
  | .mk op _ name l => if op = 5 then great name else ((op == 2 || op == 4) && great name) || l.attach.any (fun ⟨x, _⟩ => secE x)
theorem secE_eq (op n : Int) (name : ByteArray) (l : List ExprT) : secE (.mk op n name l) = if op = 5 then great name else ((op == 2 || op == 4) && great name) || l.any secE := by
  rw [secE]
  congr 2
  rw [List.any_subtype (g := secE) (fun x h => rfl)]
  simp

theorem size_mem {l : List ExprT} {x : ExprT} (h : x ∈ l) (op n : Int) (name : ByteArray) : SizeOf.sizeOf x < SizeOf.sizeOf (ExprT.mk op n name l) := by
  have := List.sizeOf_lt_of_mem h
  simp only [ExprT.mk.sizeOf_spec]
  omega
set_option maxHeartbeats 2000000 in
set_option maxRecDepth 100000 in
theorem of_any (k : Nat) : ∀ (t : ExprT), SizeOf.sizeOf t < k → ∀ (w : World) (X : Nat → Prop) (cs : List Value), IsExpr w X t cs → Calls Try.prog 13 #[.agg cs.toArray] w fun e w' => e = .returned (.bool (secE t)) ∧ Below w.heap.size w w' := by
  induction k with
  | zero => intro t h; omega
  | succ k ih =>
    intro t hk w X cs h
    cases h with
    | mk op n name l A c f hs hr h =>
      show Calls Try.prog 13 #[.agg #[.int .i64 op, .int .i64 n, .string name, .slice A l.length c]] w _
      rw [secE_eq]
      have hb0 : Below w.heap.size w (w.alloc (.cells #[.int .i64 op, .int .i64 n, .string name, .slice A l.length c] 28)) := (Below.refl _ _).alloc (Nat.le_refl _) _
      have hex : Exprs (w.alloc (.cells #[.int .i64 op, .int .i64 n, .string name, .slice A l.length c] 28)) X A c l := (show Exprs w X A c l from ⟨f, hr, h⟩).keep hb0
      have CH := Lib.hid (ofHas secE hex (fun x hx w' cs hb hie => ih x (by have := size_mem hx op n name; omega) w' X cs hie))
      clear ih hr h hex hk
      generalize l.any secE = r at *
      generalize l.length = m at *
      by_cases h5 : op = 5
      · rw [if_pos h5]
        subst h5
        go_enter Try.func13, Try.ntmps13
        go_wp2_with fail
        refine (secret_any _ _).mono ?_; rintro e w1 ⟨rfl, rfl⟩
        go_wp2_with fail
        go_ret
        exact ⟨rfl, hb0⟩
      · rw [if_neg h5]
        by_cases h24 : op = 2 ∨ op = 4
        · have e : (op == 2 || op == 4) = true := by simpa using h24
          rw [e]
          clear e
          obtain ⟨g, hg⟩ : ∃ g, great name = g := ⟨_, rfl⟩
          rw [hg]
          have HG := Lib.hid hg
          clear hg
          rcases h24 with rfl | rfl
          · go_enter Try.func13, Try.ntmps13
            go_wp2_with fail
            refine (secret_any _ _).mono ?_; rintro e w1 ⟨rfl, rfl⟩
            rw [HG.out]
            cases g with
            | true => 
              go_wp2_with fail
              go_ret
              exact ⟨rfl, hb0⟩
            | false =>
              go_wp2_with fail
              refine CH.out.mono ?_; rintro e w1 ⟨rfl, hb1⟩
              go_wp2_with fail
              go_ret
              exact ⟨by simp, hb0.trans (hb1.mono (by simp))⟩
          · go_enter Try.func13, Try.ntmps13
            go_wp2_with fail
            refine (secret_any _ _).mono ?_; rintro e w1 ⟨rfl, rfl⟩
            rw [HG.out]
            cases g with
            | true => 
              go_wp2_with fail
              go_ret
              exact ⟨rfl, hb0⟩
            | false =>
              go_wp2_with fail
              refine CH.out.mono ?_; rintro e w1 ⟨rfl, hb1⟩
              go_wp2_with fail
              go_ret
              exact ⟨by simp, hb0.trans (hb1.mono (by simp))⟩
        · have e : (op == 2 || op == 4) = false := by simpa using h24
          rw [e]
          have h2 : ¬ op = 2 := fun e => h24 (.inl e)
          have h4 : ¬ op = 4 := fun e => h24 (.inr e)
          clear e h24
          go_enter Try.func13, Try.ntmps13
          go_wp2_with fail
          refine CH.out.mono ?_; rintro e w1 ⟨rfl, hb1⟩
          go_wp2_with fail
          go_ret
          exact ⟨by simp, hb0.trans (hb1.mono (by simp))⟩
theorem of_tree {t : ExprT} {w : World} {X : Nat → Prop} {cs : List Value} (h : IsExpr w X t cs) : Calls Try.prog 13 #[.agg cs.toArray] w fun e w' => e = .returned (.bool (secE t)) ∧ Below w.heap.size w w' := of_any (SizeOf.sizeOf t + 1) t (Nat.lt_succ_self _) w X cs h

/-- is the i-th secret? -/
def leaksv (l : List ExprT) (i : Nat) : Bool := (l[i]?.map secE).getD false
set_option maxHeartbeats 1000000 in
set_option maxRecDepth 100000 in
theorem leaks_any {w : World} {X : Nat → Prop} {A : Option Addr} {c : Nat} {l : List ExprT} (h : Exprs w X A c l) (i : Nat) (hi : i ≤ 8796093022208) :
    Calls Try.prog 30 #[.slice A l.length c, .int .i64 i] w fun e w' => e = .returned (.bool (leaksv l i)) ∧ Below w.heap.size w w' := by
  have hmx : l.length ≤ 8796093022208 := by obtain ⟨f, h1, _⟩ := h; exact h1.max
  by_cases hl : i < l.length
  · obtain ⟨b, off, op, n, name, B, lc, cc, rfl, hie, hc⟩ := h.get i hl
    obtain ⟨d0, d1, d2, d3⟩ := hc w (Below.refl _ _)
    have e : leaksv l i = secE l[i] := by unfold leaksv; rw [List.getElem?_eq_getElem hl]; rfl
    rw [e]
    have CO := Lib.hid (of_tree hie)
    clear h hie hc e
    generalize secE l[i] = r at *
    have hli : (i : Int) < (l.length : Int) := by omega
    generalize l.length = m at *
    go_enter Try.func30, Try.ntmps30
    go_wp2_with fail
    refine CO.out.mono ?_; rintro e w1 ⟨rfl, hb1⟩
    go_wp2_with fail
    go_ret
    exact ⟨rfl, hb1⟩
  · have e : leaksv l i = false := by unfold leaksv; rw [List.getElem?_eq_none (by omega)]; rfl
    rw [e]
    clear h e
    generalize l.length = m at *
    go_enter Try.func30, Try.ntmps30
    go_wp2_with fail
    go_ret
    exact ⟨rfl, Below.refl _ _⟩
end Go.Proofs.Ytnpmgnfohaeonaa
