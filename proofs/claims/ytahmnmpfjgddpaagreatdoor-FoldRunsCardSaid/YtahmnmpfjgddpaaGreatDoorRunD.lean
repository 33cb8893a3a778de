/- What is folded is right, and does the same for no more: the plain law. -/
import Derived.Test.YtahmnmpfjgddpaaGreatDoorRunC
namespace Go.Proofs.YtahmnmpfjgddpaaGreatDoor
set_option linter.unusedVariables false
set_option linter.unusedSimpArgs false
open Go.RowKit

section
variable {fs : List FnR} {k0 at_ many : Nat} {bs : List InsR} {l' : List InsR}
theorem takesAt_set (hk : k0 < fs.length) (i : InsR) : takesAt (setL fs k0 l') i = takesAt fs i := by
  unfold takesAt
  rw [(setL_hd fs k0 l' hk _).1]
theorem behind_set (hk : k0 < fs.length) (i : InsR) (d : Int) : behind (setL fs k0 l') i d = behind fs i d := by unfold behind; rw [takesAt_set hk]
theorem okAt_set (hk : k0 < fs.length) (f : FnR) (i : InsR) (d : Int) : okAt (setL fs k0 l') f i d = okAt fs f i d := by unfold okAt; rw [takesAt_set hk, setL_len]
theorem okAt_row (f : FnR) (l2 : List InsR) (i : InsR) (d : Int) : okAt fs { f with l := l2 } i d = okAt fs f i d := rfl
theorem jump_op {i : InsR} (h : jumpsv i = true) : i.op = 15 ∨ i.op = 16 := by unfold jumpsv at h; simpa using h
theorem okAt_fix (f : FnR) (i : InsR) (d : Int) : okAt fs f (fixA at_ many bs.length i) d = okAt fs f i d := by
  cases hj : jumpsv i with
  | false => rw [fixA_not hj]
  | true =>
    rw [fixA_jump hj]
    have ho := jump_op hj
    unfold okAt opOk takesAt
    simp only
    rw [if_neg (by omega), if_neg (by omega), if_neg (by omega), if_neg (by omega), if_neg (by omega), if_neg (by omega), if_neg (by omega), if_neg (by omega), if_neg (by omega), if_neg (by omega), if_neg (by omega), if_neg (by omega)]
theorem behind_fix (i : InsR) (d : Int) : behind fs (fixA at_ many bs.length i) d = behind fs i d := by
  cases hj : jumpsv i with
  | false => rw [fixA_not hj]
  | true =>
    rw [fixA_jump hj]
    have ho := jump_op hj
    unfold behind takesAt
    simp only
    rw [if_neg (by omega), if_neg (by omega)]
/-- the depths there -/
def depN (at_ many m : Nat) (D : Int → Option Int) (q : Int) : Option Int := if q < (at_ : Int) + m then D q else D (q + many - m)
theorem behind_push {x : InsR} (h : x.op = 1) (d : Int) : behind fs x d = wrap64 (wrap64 d + 1) := by
  unfold behind takesAt
  rw [if_neg (by omega), h]
  show wrap64 (wrap64 (d - 0) + 1) = _
  rw [Int.sub_zero]
theorem behind_jump {x : InsR} (h : x.op = 15) (d : Int) : behind fs x d = wrap64 (wrap64 d) := by
  unfold behind takesAt
  rw [if_neg (by omega), h]
  show wrap64 (wrap64 (d - 0) + 0) = _
  rw [Int.sub_zero, Int.add_zero]
theorem behind_zero {x : InsR} (h : x.op = 16) (d : Int) : behind fs x d = wrap64 (wrap64 (d - 1)) := by
  unfold behind takesAt
  rw [if_neg (by omega), h]
  show wrap64 (wrap64 (d - 1) + 0) = _
  rw [Int.add_zero]
theorem behind_one {x : InsR} (h : x.op = 4 ∨ x.op = 5) (d : Int) : behind fs x d = wrap64 (wrap64 (d - 1) + 1) := by
  unfold behind takesAt
  rw [if_neg (by omega), takes_one h, leaves_ops (by omega)]
theorem behind_two {x : InsR} (h : 6 ≤ x.op ∧ x.op ≤ 14) (d : Int) : behind fs x d = wrap64 (wrap64 (d - 2) + 1) := by
  unfold behind takesAt
  rw [if_neg (by omega), rtakes_two h, leaves_ops (by omega)]
theorem succs_on {i : InsR} (h : i.op ≠ 18 ∧ i.op ≠ 15 ∧ i.op ≠ 16) (p : Int) : succs i p = [p + 1] := by
  unfold succs
  rw [if_neg h.1, if_neg h.2.1, if_neg h.2.2]
theorem okAt_push {f : FnR} {x y : InsR} {d : Int} (h : okAt fs f x d = true) (hx : x.op = 1) (hy : y.op = 1 ∨ y.op = 15) : okAt fs f y d = true := by
  unfold okAt opOk takesAt at *
  rw [if_neg (by omega), if_neg (by omega), if_neg (by omega), if_neg (by omega), if_neg (by omega), if_neg (by omega), hx] at h
  rw [if_neg (by omega), if_neg (by omega), if_neg (by omega), if_neg (by omega), if_neg (by omega), if_neg (by omega), decide_eq_true (by omega)]
  have ht : takesv y.op = takesv 1 := by rcases hy with e | e <;> rw [e] <;> rfl
  rw [ht]
  simp only [Bool.and_eq_true] at h ⊢
  exact ⟨trivial, h.2⟩
theorem wty_rule (hk : k0 < fs.length) (hl : at_ + many ≤ (fs.getD k0 noFn).l.length) (hB : Blk (fs.getD k0 noFn).l at_ many bs) (hfree : Free (fs.getD k0 noFn).l at_ many) {D : Int → Option Int} (h : WTy fs (fs.getD k0 noFn) D) (h64 : ∀ q e, D q = some e → In64 e) :
    WTy (setL fs k0 (replv (fs.getD k0 noFn).l at_ many bs)) { (fs.getD k0 noFn) with l := replv (fs.getD k0 noFn).l at_ many bs } (depN at_ many bs.length D) := by
  obtain ⟨F, hF⟩ : ∃ z, z = fs.getD k0 noFn := ⟨_, rfl⟩
  rw [← hF] at hl hB hfree h ⊢
  obtain ⟨hm1, hm3, hb1, hbm⟩ := hB.many
  obtain ⟨m, hm⟩ : ∃ z, z = bs.length := ⟨_, rfl⟩
  have hat : ∀ d, D at_ = some d → okAt fs F (F.l.getD at_ noIns) d = true ∧ ∀ q ∈ succs (F.l.getD at_ noIns) at_, D q = some (behind fs (F.l.getD at_ noIns) d) := fun d hd => by
    obtain ⟨_, a, b⟩ := h.2 _ _ hd
    have e : insAt F (at_ : Int) = F.l.getD at_ noIns := by unfold insAt; rw [Int.toNat_natCast]
    rw [e] at a b
    exact ⟨a, b⟩
  have hat1 : ∀ (j : Nat) d, D ((at_ + j : Nat) : Int) = some d → okAt fs F (F.l.getD (at_ + j) noIns) d = true ∧ ∀ q ∈ succs (F.l.getD (at_ + j) noIns) ((at_ + j : Nat) : Int), D q = some (behind fs (F.l.getD (at_ + j) noIns) d) := fun j d hd => by
    obtain ⟨_, a, b⟩ := h.2 _ _ hd
    have e : insAt F ((at_ + j : Nat) : Int) = F.l.getD (at_ + j) noIns := by unfold insAt; rw [Int.toNat_natCast]
    rw [e] at a b
    exact ⟨a, b⟩
  -- where nothing is put there the depth is the same behind
  have hm0 : m = 0 → ∀ d, D at_ = some d → D ((at_ + many : Nat) : Int) = some d := fun h0 d hd => by
    obtain ⟨a, b⟩ := hat d hd
    have hi := h64 _ _ hd
    cases hB with
    | hop x g0 g1 g2 =>
      rw [g0] at b
      have := b x.a (by unfold succs; rw [if_neg (by omega), if_pos g1]; simp)
      rw [behind_jump g1, g2] at this
      rw [show ((at_ + 1 : Nat) : Int) = (at_ : Int) + 1 by omega, this]
      congr 1
      unfold wrap64 In64 at *
      omega
    | stays x y g0 gx g1 gy gn =>
      rw [g0] at b
      have b1 := b ((at_ : Int) + 1) (by rw [succs_on (by omega)]; simp)
      rw [behind_push gx] at b1
      obtain ⟨_, c⟩ := hat1 1 _ b1
      rw [g1] at c
      have := c (((at_ + 1 : Nat) : Int) + 1) (by unfold succs; rw [if_neg (by omega), if_neg (by omega), if_pos gy]; simp)
      rw [behind_zero gy] at this
      rw [show ((at_ + 2 : Nat) : Int) = ((at_ + 1 : Nat) : Int) + 1 by omega, this]
      congr 1
      unfold wrap64 In64 at *
      omega
    | one x y g0 gx g1 gy => simp at hm; omega
    | goes x y g0 gx g1 gy gn => simp at hm; omega
    | two x y z g0 gx g1 gy g2 gz go => simp at hm; omega
  -- a place that is told of
  have hD : ∀ (s : Nat) d, OutP at_ many s → D (s : Int) = some d → depN at_ many m D ((phi at_ many m s : Nat) : Int) = some d := fun s d hs hd => by
    unfold depN phi
    by_cases h1 : s ≤ at_
    · rw [if_pos h1]
      by_cases h2 : (s : Int) < (at_ : Int) + m
      · rw [if_pos h2]; exact hd
      · rw [if_neg h2]
        have h0 : m = 0 := by omega
        obtain rfl : s = at_ := by omega
        rw [show (s : Int) + many - m = ((s + many : Nat) : Int) by omega]
        exact hm0 h0 d hd
    · rw [if_neg h1]
      have h3 : at_ + many ≤ s := by rcases hs with h | h <;> omega
      rw [if_neg (by omega), show ((s - many + m : Nat) : Int) + many - m = (s : Int) by omega]
      exact hd
  have hfixT : ∀ a : Int, 0 ≤ a → (∀ j : Nat, 1 ≤ j → j < many → a ≠ ((at_ + j : Nat) : Int)) → fixT at_ many m a = ((phi at_ many m a.toNat : Nat) : Int) ∧ OutP at_ many a.toNat := fun a ha hj => by
    obtain ⟨p1, p2⟩ := fixT_phi (at_ := at_) (many := many) (m := m) hm1 hj
    refine ⟨?_, p2⟩
    rw [← p1]
    unfold fixT
    split
    · split <;> omega
    · omega
  have hb0 : ∀ i : InsR, fixA at_ many bs.length i = fixA at_ many m i := fun i => by rw [hm]
  -- apart from the rule's place
  have hoth : ∀ (p : Nat) d, OutP at_ many p → p ≠ at_ → D (p : Int) = some d → okAt fs F (fixA at_ many bs.length (F.l.getD p noIns)) d = true ∧ ∀ q ∈ succs (fixA at_ many bs.length (F.l.getD p noIns)) ((phi at_ many m p : Nat) : Int), depN at_ many m D q = some (behind fs (fixA at_ many bs.length (F.l.getD p noIns)) d) := fun p d hp hne hd => by
    obtain ⟨hr, a, b⟩ := h.2 _ _ hd
    have e : insAt F (p : Int) = F.l.getD p noIns := by unfold insAt; rw [Int.toNat_natCast]
    rw [e] at a b
    rw [okAt_fix, behind_fix]
    refine ⟨a, fun q hq => ?_⟩
    obtain ⟨i, hi⟩ : ∃ z, z = F.l.getD p noIns := ⟨_, rfl⟩
    have hmem : i ∈ F.l := by
      rw [hi, List.getD_eq_getElem?_getD, List.getElem?_eq_getElem (by omega)]
      exact List.getElem_mem _
    rw [← hi] at a b hq ⊢
    obtain ⟨s1, s2⟩ := phi_succ (m := m) hp hne hm1
    have hnext : (p : Int) + 1 ∈ succs i p → depN at_ many m D (((phi at_ many m p : Nat) : Int) + 1) = some (behind fs i d) := fun hin => by
      have hdn := b _ hin
      have := hD (p + 1) _ s2 (by rw [show ((p + 1 : Nat) : Int) = (p : Int) + 1 by omega]; exact hdn)
      rw [s1] at this
      rw [show ((phi at_ many m p : Nat) : Int) + 1 = ((phi at_ many m p + 1 : Nat) : Int) by omega]
      exact this
    have hjmp : jumpsv i = true → i.a ∈ succs i p → depN at_ many m D (fixT at_ many m i.a) = some (behind fs i d) := fun hj hin => by
      have hdn := b _ hin
      have h0 := (h.2 _ _ hdn).1.1
      obtain ⟨t1, t2⟩ := hfixT i.a h0 (fun j hj1 hj2 => hfree j hj1 hj2 i hmem hj)
      rw [t1]
      refine hD _ _ t2 ?_
      rw [show ((i.a.toNat : Nat) : Int) = i.a by omega]
      exact hdn
    cases hj : jumpsv i with
    | false =>
      rw [fixA_not hj] at hq
      have hno : i.op ≠ 15 ∧ i.op ≠ 16 := by unfold jumpsv at hj; simp at hj; exact hj
      by_cases h18 : i.op = 18
      · unfold succs at hq; rw [if_pos h18] at hq; cases hq
      · rw [succs_on ⟨h18, hno.1, hno.2⟩] at hq
        rw [List.mem_singleton.1 hq]
        exact hnext (by rw [succs_on ⟨h18, hno.1, hno.2⟩]; simp)
    | true =>
      rw [fixA_jump hj, ← hm] at hq
      rcases jump_op hj with h15 | h16
      · have hs : ∀ x : Int, succs i x = [i.a] := fun x => by unfold succs; rw [if_neg (by omega), if_pos h15]
        have hq : q ∈ succs { i with a := fixT at_ many m i.a } ((phi at_ many m p : Nat) : Int) := hq
        unfold succs at hq
        simp only at hq
        rw [if_neg (by omega), if_pos h15] at hq
        rw [List.mem_singleton.1 hq]
        exact hjmp hj (by rw [hs]; simp)
      · have hs : ∀ x : Int, succs i x = [i.a, x + 1] := fun x => by unfold succs; rw [if_neg (by omega), if_neg (by omega), if_pos h16]
        have hq : q ∈ succs { i with a := fixT at_ many m i.a } ((phi at_ many m p : Nat) : Int) := hq
        unfold succs at hq
        simp only at hq
        rw [if_neg (by omega), if_neg (by omega), if_pos h16] at hq
        rcases List.mem_cons.1 hq with rfl | hq
        · exact hjmp hj (by rw [hs]; simp)
        · rw [List.mem_singleton.1 hq]
          exact hnext (by rw [hs]; simp)
  rw [← hm]
  refine ⟨?_, fun q dq hq => ?_⟩
  · have := hD 0 0 (.inl (Nat.zero_le _)) h.1
    unfold phi at this
    rw [if_pos (Nat.zero_le _)] at this
    exact this
  · have hrange : 0 ≤ q ∧ q < ((replv F.l at_ many bs).length : Int) := by
      rw [replv_len hl, ← hm]
      unfold depN at hq
      split at hq
      · have := (h.2 _ _ hq).1; omega
      · have := (h.2 _ _ hq).1; omega
    refine ⟨hrange, ?_⟩
    rw [okAt_set hk, okAt_row, behind_set hk]
    obtain ⟨qn, rfl⟩ : ∃ n : Nat, q = n := ⟨q.toNat, by omega⟩
    have hins : insAt { F with l := replv F.l at_ many bs } (qn : Int) = (replv F.l at_ many bs).getD qn noIns := by unfold insAt; rw [Int.toNat_natCast]
    rw [hins]
    unfold depN at hq
    by_cases hc : (qn : Int) < (at_ : Int) + m
    · rw [if_pos hc] at hq
      by_cases hlt : qn < at_
      · rw [replv_low hl hlt]
        have := hoth qn dq (.inl (by omega)) (by omega) hq
        have e : phi at_ many m qn = qn := by unfold phi; rw [if_pos (by omega)]
        rw [e] at this
        exact this
      · -- the place of the rule
        have hq1 : qn = at_ := by omega
        have hb0' : 0 < bs.length := by omega
        have hmid := replv_mid (bs := bs) hl hb0'
        rw [Nat.add_zero] at hmid
        rw [hq1] at hq ⊢
        rw [hmid]
        have hm1' : m = 1 := by omega
        obtain ⟨a, b⟩ := hat dq hq
        have hi := h64 _ _ hq
        have hdn : ∀ d, D ((at_ + many : Nat) : Int) = some d → depN at_ many m D ((at_ : Int) + 1) = some d := fun d hd => by
          unfold depN
          rw [if_neg (by omega), show (at_ : Int) + 1 + many - m = ((at_ + many : Nat) : Int) by omega]
          exact hd
        cases hB with
        | hop x g0 g1 g2 => simp at hb0'
        | stays x y g0 gx g1 gy gn => simp at hb0'
        | one x y g0 gx g1 gy =>
          rw [g0] at a b
          show okAt fs F (fixA at_ (2 : Nat) (1 : Nat) (pushR (doV (y.op + 2) x.n 0).1)) dq = true ∧ ∀ q ∈ succs (fixA at_ (2 : Nat) (1 : Nat) (pushR (doV (y.op + 2) x.n 0).1)) (at_ : Int), depN at_ 2 m D q = some (behind fs (fixA at_ (2 : Nat) (1 : Nat) (pushR (doV (y.op + 2) x.n 0).1)) dq)
          rw [fixA_not (x := pushR (doV (y.op + 2) x.n 0).1) rfl]
          refine ⟨okAt_push a gx (.inl rfl), fun q hq => ?_⟩
          rw [succs_on (push_op _)] at hq
          rw [List.mem_singleton.1 hq, behind_push rfl]
          have b1 := b ((at_ : Int) + 1) (by rw [succs_on (by omega)]; simp)
          rw [behind_push gx] at b1
          obtain ⟨_, c⟩ := hat1 1 _ b1
          rw [g1] at c
          have c1 := c (((at_ + 1 : Nat) : Int) + 1) (by rw [succs_on (by omega)]; simp)
          rw [behind_one gy] at c1
          refine hdn _ ?_
          rw [show ((at_ + 2 : Nat) : Int) = ((at_ + 1 : Nat) : Int) + 1 by omega, c1]
          congr 1
          unfold wrap64
          omega
        | goes x y g0 gx g1 gy gn =>
          rw [g0] at a b
          have b1 := b ((at_ : Int) + 1) (by rw [succs_on (by omega)]; simp)
          rw [behind_push gx] at b1
          obtain ⟨_, c⟩ := hat1 1 _ b1
          rw [g1] at c
          have c1 := c y.a (by unfold succs; rw [if_neg (by omega), if_neg (by omega), if_pos gy]; simp)
          rw [behind_zero gy] at c1
          have hfx : fixA at_ 2 ([(⟨15, y.a, 0⟩ : InsR)] : List InsR).length (([(⟨15, y.a, 0⟩ : InsR)] : List InsR).getD 0 noIns) = ⟨15, fixT at_ 2 1 y.a, 0⟩ := fixA_jump (at_ := at_) (many := 2) (m := 1) rfl
          have hfx : fixA ((at_ : Nat) : Int) ((2 : Nat) : Int) (([(⟨15, y.a, 0⟩ : InsR)] : List InsR).length : Int) (([(⟨15, y.a, 0⟩ : InsR)] : List InsR).getD 0 noIns) = ⟨15, fixT at_ 2 1 y.a, 0⟩ := hfx
          rw [hfx]
          refine ⟨okAt_push a gx (.inr rfl), fun q hq => ?_⟩
          have hq : q ∈ [fixT at_ 2 1 y.a] := hq
          rw [List.mem_singleton.1 hq, behind_jump rfl]
          have hym : y ∈ F.l := by
            rw [← g1, List.getD_eq_getElem?_getD, List.getElem?_eq_getElem (by omega)]
            exact List.getElem_mem _
          have hyj : jumpsv y = true := by unfold jumpsv; rw [decide_eq_true (.inr gy)]
          have h0 := (h.2 _ _ c1).1.1
          obtain ⟨t1, t2⟩ := hfixT y.a h0 (fun j hj1 hj2 => hfree j hj1 hj2 y hym hyj)
          rw [hm1'] at t1 hD ⊢
          rw [t1]
          refine (hD _ _ t2 (by rw [show ((y.a.toNat : Nat) : Int) = y.a by omega]; exact c1)).trans ?_
          congr 1
          unfold wrap64
          omega
        | two x y z g0 gx g1 gy g2 gz go =>
          rw [g0] at a b
          show okAt fs F (fixA at_ (3 : Nat) (1 : Nat) (pushR (doV (z.op + 2) x.n y.n).1)) dq = true ∧ ∀ q ∈ succs (fixA at_ (3 : Nat) (1 : Nat) (pushR (doV (z.op + 2) x.n y.n).1)) (at_ : Int), depN at_ 3 m D q = some (behind fs (fixA at_ (3 : Nat) (1 : Nat) (pushR (doV (z.op + 2) x.n y.n).1)) dq)
          rw [fixA_not (x := pushR (doV (z.op + 2) x.n y.n).1) rfl]
          refine ⟨okAt_push a gx (.inl rfl), fun q hq => ?_⟩
          rw [succs_on (push_op _)] at hq
          rw [List.mem_singleton.1 hq, behind_push rfl]
          have b1 := b ((at_ : Int) + 1) (by rw [succs_on (by omega)]; simp)
          rw [behind_push gx] at b1
          obtain ⟨_, c⟩ := hat1 1 _ b1
          rw [g1] at c
          have c1 := c (((at_ + 1 : Nat) : Int) + 1) (by rw [succs_on (by omega)]; simp)
          rw [behind_push gy, show ((at_ + 1 : Nat) : Int) + 1 = ((at_ + 2 : Nat) : Int) by omega] at c1
          obtain ⟨_, c2⟩ := hat1 2 _ c1
          rw [g2] at c2
          have c3 := c2 (((at_ + 2 : Nat) : Int) + 1) (by rw [succs_on (by omega)]; simp)
          rw [behind_two gz] at c3
          refine hdn _ ?_
          rw [show ((at_ + 3 : Nat) : Int) = ((at_ + 2 : Nat) : Int) + 1 by omega, c3]
          congr 1
          unfold wrap64
          omega
    · rw [if_neg hc] at hq
      obtain ⟨p, hp⟩ : ∃ p : Nat, p = qn + many - m := ⟨_, rfl⟩
      have hpq : qn = p - many + m := by omega
      have hpo : at_ + many ≤ p := by omega
      rw [hpq, hm, replv_high hl hpo, ← hm]
      have hd2 : D (p : Int) = some dq := by rw [hp]; rw [← hq]; congr 1; omega
      have := hoth p dq (.inr hpo) (by omega) hd2
      have e : phi at_ many m p = p - many + m := by unfold phi; rw [if_neg (by omega)]
      rw [e, ← hm] at this
      exact this
/-- the code is right as it was -/
theorem code_rule (hk : k0 < fs.length) (hl : at_ + many ≤ (fs.getD k0 noFn).l.length) (hB : Blk (fs.getD k0 noFn).l at_ many bs) (hfree : Free (fs.getD k0 noFn).l at_ many) (h : CodeOk fs) : CodeOk (setL fs k0 (replv (fs.getD k0 noFn).l at_ many bs)) := by
  obtain ⟨h1, h2, h3⟩ := h
  have hF : fs.getD k0 noFn ∈ fs := by rw [List.getD_eq_getElem?_getD, List.getElem?_eq_getElem hk]; exact List.getElem_mem _
  refine ⟨by rw [setL_len]; exact h1, by rw [(setL_hd fs k0 _ hk 0).1]; exact h2, fun f hf => ?_⟩
  unfold setL at hf
  rcases List.mem_or_eq_of_mem_set hf with hf | rfl
  · obtain ⟨g1, g2⟩ := h3 f hf
    obtain ⟨D, hD, _⟩ := g2.dep
    refine ⟨g1, sty_of_wty (D := D) ⟨hD.1, fun p dp hp => ?_⟩⟩
    rw [okAt_set hk, behind_set hk]
    exact hD.2 p dp hp
  · obtain ⟨g1, g2⟩ := h3 _ hF
    obtain ⟨D, hD, h64⟩ := g2.dep
    exact ⟨g1, sty_of_wty (wty_rule hk hl hB hfree hD h64)⟩
theorem noClock_rule (hk : k0 < fs.length) (hB : Blk (fs.getD k0 noFn).l at_ many bs) (h : NoClock fs) : NoClock (setL fs k0 (replv (fs.getD k0 noFn).l at_ many bs)) := fun f hf x hx => by
  have hF : fs.getD k0 noFn ∈ fs := by rw [List.getD_eq_getElem?_getD, List.getElem?_eq_getElem hk]; exact List.getElem_mem _
  unfold setL at hf
  rcases List.mem_or_eq_of_mem_set hf with hf | rfl
  · exact h f hf x hx
  · have hx : x ∈ replv (fs.getD k0 noFn).l at_ many bs := hx
    unfold replv at hx
    obtain ⟨y, hy, rfl⟩ := List.mem_map.1 hx
    rw [(fixA_op _ _ _ y).1]
    unfold repl at hy
    have hbs : ∀ z ∈ bs, z.op ≠ 25 := by
      cases hB with
      | hop x g0 g1 g2 => intro z hz; cases hz
      | stays x y g0 gx g1 gy gn => intro z hz; cases hz
      | one x y' g0 gx g1 gy => intro z hz; rw [List.mem_singleton.1 hz]; show (1 : Int) ≠ 25; decide
      | goes x y' g0 gx g1 gy gn => intro z hz; rw [List.mem_singleton.1 hz]; show (15 : Int) ≠ 25; decide
      | two x y' z' g0 gx g1 gy g2 gz go => intro z hz; rw [List.mem_singleton.1 hz]; show (1 : Int) ≠ 25; decide
    rcases List.mem_append.1 hy with h1 | h1
    · rcases List.mem_append.1 h1 with h2 | h2
      · exact h _ hF y (List.mem_of_mem_take h2)
      · exact hbs y h2
    · exact h _ hF y (List.mem_of_mem_drop h1)
end
/-- does the same, for no more -/
structure Better (fs fs' : List FnR) : Prop where
  len : fs'.length = fs.length
  ok : CodeOk fs → CodeOk fs'
  no : NoClock fs → NoClock fs'
  runs : NoClock fs → ∀ (i0 i1 : List Int) (F q : Int) (k : Nat) (g : GS) (r e : Int), iter fs k (.run [newFr fs 0 []] (startG i0 i1 F q)) = .over g r e → e ≠ 8 → ∃ k' n', n' ≤ g.now ∧ iter fs' k' (.run [newFr fs' 0 []] (startG i0 i1 F q)) = .over { g with now := n' } r e
theorem Better.refl (fs : List FnR) : Better fs fs := ⟨rfl, id, id, fun _ _ _ _ _ k g r e h _ => ⟨k, g.now, Int.le_refl _, h⟩⟩
theorem Better.trans {a b c : List FnR} (h : Better a b) (k : Better b c) : Better a c := ⟨k.len.trans h.len, fun x => k.ok (h.ok x), fun x => k.no (h.no x), fun hn i0 i1 F q n g r e h1 h2 => by
  obtain ⟨k1, n1, h3, h4⟩ := h.runs hn i0 i1 F q n g r e h1 h2
  obtain ⟨k2, n2, h5, h6⟩ := k.runs (h.no hn) i0 i1 F q k1 _ r e h4 h2
  exact ⟨k2, n2, Int.le_trans h5 h3, h6⟩⟩
theorem better_rule {fs : List FnR} {k0 at_ : Nat} {l' : List InsR} (hk : k0 < fs.length) (h : ruleV (fs.getD k0 noFn).l at_ = some l') : Better fs (setL fs k0 l') := by
  obtain ⟨many, bs, hB, hfree, hl, rfl⟩ := ruleV_blk h
  refine ⟨setL_len _ _ _, code_rule hk hl hB hfree, noClock_rule hk hB, fun hn i0 i1 F q k g r e h1 h2 => ?_⟩
  rw [newFr_set hk]
  refine rule_run hk hl hB hfree hn k (.run [newFr fs 0 []] (startG i0 i1 F q)) _ g r e ?_ h1 h2
  refine ⟨fun f hf => ?_, (startG i0 i1 F q).now, Int.le_refl _, ?_⟩
  · rw [List.mem_singleton.1 hf]
    exact fun _ => .inl (Nat.zero_le _)
  · show Conf.run _ _ = Conf.run _ _
    congr 1
    rw [List.map_cons, List.map_nil]
    congr 1
    unfold mvF newFr phi
    split
    · rw [if_pos (Nat.zero_le _)]
    · rfl
theorem setL_same {fs : List FnR} {k0 : Nat} (hk : k0 < fs.length) : setL fs k0 (fs.getD k0 noFn).l = fs := by
  unfold setL
  refine set_same ?_
  rw [List.getElem?_eq_getElem hk, List.getD_eq_getElem?_getD, List.getElem?_eq_getElem hk]
  rfl
theorem setL_set {fs : List FnR} {k0 : Nat} (hk : k0 < fs.length) (a b : List InsR) : setL (setL fs k0 a) k0 b = setL fs k0 b := by
  have h := setL_get fs k0 a hk k0
  rw [if_pos rfl] at h
  unfold setL at *
  rw [h, List.set_set]
theorem better_fold {k0 : Nat} : ∀ (n : Nat) (fs : List FnR), k0 < fs.length → (fs.getD k0 noFn).l.length = n → Better fs (setL fs k0 (foldv (fs.getD k0 noFn).l)) := by
  intro n
  induction n using Nat.strongRecOn with
  | _ n ih =>
    intro fs hk hl
    cases e : firstRule (fs.getD k0 noFn).l with
    | none =>
      rw [foldv_none e, setL_same hk]
      exact Better.refl _
    | some l' =>
      obtain ⟨i, _, hr, _⟩ := firstRule_some e
      have h1 := better_rule hk hr
      have hget := setL_get fs k0 l' hk k0
      rw [if_pos rfl] at hget
      have hk1 : k0 < (setL fs k0 l').length := by rw [setL_len]; exact hk
      have h2 := ih l'.length (by have := firstRule_less e; omega) (setL fs k0 l') hk1 (by rw [hget])
      rw [hget] at h2
      rw [foldv_some e]
      rw [setL_set hk] at h2
      exact h1.trans h2
def foldF (f : FnR) : FnR := { f with l := foldv f.l }
theorem better_all (fs : List FnR) : Better fs (fs.map foldF) := by
  have key : ∀ j, j ≤ fs.length → Better fs ((fs.take j).map foldF ++ fs.drop j) := by
    intro j
    induction j with
    | zero => intro _; simp; exact Better.refl _
    | succ j ih =>
      intro hj
      have h1 := ih (by omega)
      have hlt : j < ((fs.take j).map foldF ++ fs.drop j).length := by rw [List.length_append, List.length_map, List.length_take, List.length_drop]; omega
      have h2 := better_fold (k0 := j) _ ((fs.take j).map foldF ++ fs.drop j) hlt rfl
      have hg : ((fs.take j).map foldF ++ fs.drop j).getD j noFn = fs[j] := by
        rw [List.getD_eq_getElem?_getD, List.getElem?_append_right (by rw [List.length_map, List.length_take]; omega), List.length_map, List.length_take, List.getElem?_drop, List.getElem?_eq_getElem (by omega)]
        simp only [Option.getD_some]
        congr 1
        omega
      rw [hg] at h2
      have he : setL ((fs.take j).map foldF ++ fs.drop j) j (foldv fs[j].l) = (fs.take (j + 1)).map foldF ++ fs.drop (j + 1) := by
        unfold setL
        rw [hg, List.take_succ_eq_append_getElem (by omega), List.map_append, List.append_assoc]
        have hl : ((fs.take j).map foldF).length = j := by rw [List.length_map, List.length_take]; omega
        rw [List.set_append_right _ _ (by omega), hl, Nat.sub_self]
        congr 1
        rw [← List.getElem_cons_drop (by omega : j < fs.length), List.set_cons_zero]
        rfl
      rw [he] at h2
      exact h1.trans h2
  have := key fs.length (Nat.le_refl _)
  rwa [List.take_length, List.drop_length, List.append_nil] at this
/-- the plain law of FoldRuns -/
theorem better_out {fs fs' : List FnR} (h : Better fs fs') (hc : CodeOk fs) {i0 i1 : List Int} {F q : Int} {a b : OutR} (ha : RunO fs i0 i1 F q a) (hb : RunO fs' i0 i1 F q b) (hn : NoClock fs) (he : a.err ≠ 8) :
    b.pr = a.pr ∧ b.ke = a.ke ∧ b.res = a.res ∧ b.err = a.err ∧ b.clk ≤ a.clk := by
  obtain ⟨k, g, hk, ho⟩ := ha.ok hc
  obtain ⟨k', n', h1, h2⟩ := h.runs hn i0 i1 F q k g a.res a.err hk he
  have hb2 := hb.is (h.ok hc) h2
  rw [hb2, ho]
  exact ⟨rfl, rfl, rfl, rfl, h1⟩
end Go.Proofs.YtahmnmpfjgddpaaGreatDoor
