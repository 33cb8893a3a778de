/- What a rule of fold leaves runs as it did: the plain law (typing, and steps apart from the place of the rule). -/
import Derived.Test.YtahmnmpfjgddpaaGreatDoorIntO
import Derived.Test.YtahmnmpfjgddpaaGreatDoorFoldFold
namespace Go.Proofs.YtahmnmpfjgddpaaGreatDoor
set_option linter.unusedVariables false
set_option linter.unusedSimpArgs false
open Go.RowKit

/-! ### a depth of each place is enough -/
theorem reachv_nodup {n : Nat} {V : List (Int × Int)} {p d : Int} (h : (V.map Prod.fst).Nodup) : ((reachv n V p d).2.map Prod.fst).Nodup := by
  unfold reachv
  split
  · rcases hl : lookv V p with _ | q
    · simp only
      rw [List.map_append, List.nodup_append]
      refine ⟨h, by simp, fun a ha b hb e => ?_⟩
      obtain ⟨x, hx, rfl⟩ := List.mem_map.1 ha
      have hb : b = p := by simpa using hb
      exact lookv_none hl x hx (by rw [e, hb])
    · exact h
  · exact h
theorem reachAll_nodup (n : Nat) (d : Int) : ∀ (qs : List Int) (V : List (Int × Int)), (V.map Prod.fst).Nodup → ((reachAll n V qs d).2.map Prod.fst).Nodup
  | [], V, h => h
  | q :: qs, V, h => by
    unfold reachAll
    split
    · exact reachAll_nodup n d qs _ (reachv_nodup h)
    · exact reachv_nodup h
theorem placev_nodup {fs : List FnR} {f : FnR} {V : List (Int × Int)} {i : InsR} {p dp : Int} (h : (V.map Prod.fst).Nodup) : ((placev fs f V i p dp).2.map Prod.fst).Nodup := by
  unfold placev
  split
  · exact reachAll_nodup _ _ _ _ h
  · exact h
theorem sty_of_wty {fs : List FnR} {f : FnR} {D : Int → Option Int} (h : WTy fs f D) : STy fs f := by
  have hs : (reachv f.l.length [] 0 0).1 = true := by
    cases e : (reachv f.l.length [] 0 0).1 with
    | true => rfl
    | false => exact absurd h (start_false e D)
  have key : ∀ (k : Nat) (V : List (Int × Int)) (r : Nat), Inv fs f V r → (V.map Prod.fst).Nodup → f.l.length - r = k → STy fs f := by
    intro k
    induction k with
    | zero =>
      intro V r hi hn hk
      have hle := pigeon f.l.length (V.map Prod.fst) hn (fun x hx => by
        obtain ⟨y, hy, rfl⟩ := List.mem_map.1 hx
        exact hi.range y hy)
      rw [List.length_map] at hle
      have := hi.le
      obtain rfl : r = V.length := by omega
      exact hi.all
    | succ k ih =>
      intro V r hi hn hk
      by_cases hr : r = V.length
      · subst hr; exact hi.all
      · have hlt : r < V.length := by have := hi.le; omega
        have hx : V[r]? = some V[r] := List.getElem?_eq_getElem hlt
        have ht : (placev fs f V (insAt f V[r].1) V[r].1 V[r].2).1 = true := by
          cases e : (placev fs f V (insAt f V[r].1) V[r].1 V[r].2).1 with
          | true => rfl
          | false => exact absurd h (step_false hi hx e D)
        exact ih _ (r + 1) (hi.step hx ht) (placev_nodup hn) (by omega)
  exact key _ _ 0 (Inv.start hs) (reachv_nodup (by simp)) rfl
theorem in_wrap64 (x : Int) : In64 (wrap64 x) := by unfold In64 wrap64; omega
theorem STy.dep {fs : List FnR} {f : FnR} (h : STy fs f) : ∃ D, WTy fs f D ∧ ∀ q e, D q = some e → In64 e := by
  obtain ⟨V, hw, hg⟩ := h
  refine ⟨lookv V, hw, fun q e he => ?_⟩
  obtain ⟨j, hj, ej⟩ := List.getElem_of_mem (lookv_some he)
  rcases hg j (q, e) (by rw [List.getElem?_eq_getElem hj, ej]) with h0 | ⟨_, y, _, _, _, _, h2⟩
  · have : e = 0 := congrArg Prod.snd h0
    rw [this]; unfold In64; omega
  · have h2 : e = behind fs (insAt f y.1) y.2 := h2
    rw [h2]
    exact in_wrap64 _

/-! ### places -/
def fixT (at_ many m : Nat) (a : Int) : Int := if (at_ : Int) < a then (if a - many + m < at_ + m then at_ + m else a - many + m) else a
def phi (at_ many m p : Nat) : Nat := if p ≤ at_ then p else p - many + m
def OutP (at_ many p : Nat) : Prop := p ≤ at_ ∨ at_ + many ≤ p
theorem fixA_jump {at_ many m : Nat} {x : InsR} (h : jumpsv x = true) : fixA at_ many m x = { x with a := fixT at_ many m x.a } := by
  unfold fixA fixT
  by_cases hc : (at_ : Int) < x.a
  · rw [if_pos ⟨h, hc⟩, if_pos hc]
  · rw [if_neg (fun e => hc e.2), if_neg hc]
theorem fixA_not {at_ many m : Int} {x : InsR} (h : jumpsv x = false) : fixA at_ many m x = x := by
  unfold fixA
  rw [if_neg (fun e => by rw [h] at e; cases e.1)]
theorem fixA_op (at_ many m : Int) (x : InsR) : (fixA at_ many m x).op = x.op ∧ (fixA at_ many m x).n = x.n := by
  unfold fixA
  split <;> exact ⟨rfl, rfl⟩
theorem fixA_no (at_ many m : Int) : fixA at_ many m noIns = noIns := fixA_not rfl
theorem fixT_phi {at_ many m : Nat} {a : Int} (h1 : 1 ≤ many) (hf : ∀ j : Nat, 1 ≤ j → j < many → a ≠ ((at_ + j : Nat) : Int)) : (fixT at_ many m a).toNat = phi at_ many m a.toNat ∧ OutP at_ many a.toNat := by
  unfold fixT phi OutP
  by_cases hc : (at_ : Int) < a
  · have hge : ((at_ + many : Nat) : Int) ≤ a := by
      by_cases hlt : a < ((at_ + many : Nat) : Int)
      · exact absurd (show a = ((at_ + (a - at_).toNat : Nat) : Int) by omega) (hf (a - at_).toNat (by omega) (by omega))
      · omega
    rw [if_pos hc, if_neg (by omega), if_neg (by omega)]
    omega
  · rw [if_neg hc, if_pos (by omega)]
    omega
theorem phi_succ {at_ many m p : Nat} (hp : OutP at_ many p) (hn : p ≠ at_) (h1 : 1 ≤ many) : phi at_ many m (p + 1) = phi at_ many m p + 1 ∧ OutP at_ many (p + 1) := by
  unfold OutP phi at *
  rcases hp with h | h
  · rw [if_pos (by omega), if_pos h]; omega
  · rw [if_neg (by omega), if_neg (by omega)]; omega
theorem map_getD (g : InsR → InsR) (hg : g noIns = noIns) (xs : List InsR) (i : Nat) : (xs.map g).getD i noIns = g (xs.getD i noIns) := by
  rw [List.getD_eq_getElem?_getD, List.getD_eq_getElem?_getD, List.getElem?_map]
  rcases xs[i]? with _ | x
  · exact hg.symm
  · rfl
theorem replv_low {l bs : List InsR} {at_ many p : Nat} (hl : at_ + many ≤ l.length) (hp : p < at_) : (replv l at_ many bs).getD p noIns = fixA at_ many bs.length (l.getD p noIns) := by
  unfold replv
  rw [map_getD _ (fixA_no _ _ _)]
  congr 1
  unfold repl
  rw [List.getD_eq_getElem?_getD, List.getD_eq_getElem?_getD, List.append_assoc, List.getElem?_append_left (by rw [List.length_take]; omega), List.getElem?_take_of_lt hp]
theorem replv_mid {l bs : List InsR} {at_ many j : Nat} (hl : at_ + many ≤ l.length) (hj : j < bs.length) : (replv l at_ many bs).getD (at_ + j) noIns = fixA at_ many bs.length (bs.getD j noIns) := by
  unfold replv
  rw [map_getD _ (fixA_no _ _ _)]
  congr 1
  unfold repl
  rw [List.getD_eq_getElem?_getD, List.getD_eq_getElem?_getD, List.append_assoc, List.getElem?_append_right (by rw [List.length_take]; omega), List.length_take, List.getElem?_append_left (by omega)]
  congr 2
  omega
theorem replv_high {l bs : List InsR} {at_ many p : Nat} (hl : at_ + many ≤ l.length) (hp : at_ + many ≤ p) : (replv l at_ many bs).getD (p - many + bs.length) noIns = fixA at_ many bs.length (l.getD p noIns) := by
  unfold replv
  rw [map_getD _ (fixA_no _ _ _)]
  congr 1
  unfold repl
  rw [List.getD_eq_getElem?_getD, List.getD_eq_getElem?_getD, List.getElem?_append_right (by rw [List.length_append, List.length_take]; omega), List.length_append, List.length_take, List.getElem?_drop]
  congr 2
  omega
theorem replv_len {l bs : List InsR} {at_ many : Nat} (hl : at_ + many ≤ l.length) : (replv l at_ many bs).length = l.length - many + bs.length := replv_length l at_ many bs hl

/-! ### a rule -/
/-- what stands there, and what is put there -/
inductive Blk (l : List InsR) (at_ : Nat) : Nat → List InsR → Prop
  | hop (x : InsR) (h0 : l.getD at_ noIns = x) (h1 : x.op = 15) (h2 : x.a = (at_ : Int) + 1) : Blk l at_ 1 []
  | one (x y : InsR) (h0 : l.getD at_ noIns = x) (hx : x.op = 1) (h1 : l.getD (at_ + 1) noIns = y) (hy : y.op = 4 ∨ y.op = 5) : Blk l at_ 2 [pushR (doV (y.op + 2) x.n 0).1]
  | goes (x y : InsR) (h0 : l.getD at_ noIns = x) (hx : x.op = 1) (h1 : l.getD (at_ + 1) noIns = y) (hy : y.op = 16) (hn : x.n = 0) : Blk l at_ 2 [⟨15, y.a, 0⟩]
  | stays (x y : InsR) (h0 : l.getD at_ noIns = x) (hx : x.op = 1) (h1 : l.getD (at_ + 1) noIns = y) (hy : y.op = 16) (hn : x.n ≠ 0) : Blk l at_ 2 []
  | two (x y z : InsR) (h0 : l.getD at_ noIns = x) (hx : x.op = 1) (h1 : l.getD (at_ + 1) noIns = y) (hy : y.op = 1) (h2 : l.getD (at_ + 2) noIns = z) (hz : 6 ≤ z.op ∧ z.op ≤ 14) (ho : (doV (z.op + 2) x.n y.n).2 = true) : Blk l at_ 3 [pushR (doV (z.op + 2) x.n y.n).1]
/-- nobody jumps into it -/
def Free (l : List InsR) (at_ many : Nat) : Prop := ∀ j : Nat, 1 ≤ j → j < many → ∀ x ∈ l, jumpsv x = true → x.a ≠ ((at_ + j : Nat) : Int)
theorem free_of {l : List InsR} {k : Int} (h : freev l k = true) : ∀ x ∈ l, jumpsv x = true → x.a ≠ k := fun x hx hj e => by
  unfold freev at h
  simp only [Bool.and_eq_true, Bool.not_eq_true', List.any_eq_false] at h
  have := h.2 x hx
  unfold hitv at this
  rw [hj, e] at this
  simp at this
theorem getD_of {l : List InsR} {i : Nat} {x : InsR} (h : l[i]? = some x) : l.getD i noIns = x := by rw [List.getD_eq_getElem?_getD, h]; rfl
theorem ruleV_blk {l l' : List InsR} {i : Nat} (h : ruleV l i = some l') : ∃ many bs, Blk l i many bs ∧ Free l i many ∧ i + many ≤ l.length ∧ l' = replv l i many bs := by
  unfold ruleV at h
  rcases e : l[i]? with _ | x
  · rw [e] at h; cases h
  · rw [e] at h
    have hil := (List.getElem?_eq_some_iff.1 e).1
    simp only at h
    split at h
    · rename_i hc
      injection h with h
      exact ⟨1, [], .hop x (getD_of e) hc.1 hc.2, fun j h1 h2 => by omega, by omega, h.symm⟩
    · split at h
      · rename_i hc
        have hf1 := free_of hc.2
        rcases e2 : l[i + 1]? with _ | y
        · rw [e2] at h; cases h
        · rw [e2] at h
          have hil2 := (List.getElem?_eq_some_iff.1 e2).1
          have hf2 : Free l i 2 := fun j h1 h2 => by
            obtain rfl : j = 1 := by omega
            exact hf1
          simp only at h
          unfold behindV at h
          split at h
          · rename_i hy
            injection h with h
            exact ⟨2, _, .one x y (getD_of e) hc.1 (getD_of e2) hy, hf2, by omega, h.symm⟩
          · split at h
            · rename_i hy
              injection h with h
              exact ⟨2, _, .goes x y (getD_of e) hc.1 (getD_of e2) hy.1 hy.2, hf2, by omega, h.symm⟩
            · rename_i hyn
              split at h
              · rename_i hy
                injection h with h
                exact ⟨2, _, .stays x y (getD_of e) hc.1 (getD_of e2) hy (fun e => hyn ⟨hy, e⟩), hf2, by omega, h.symm⟩
              · split at h
                · cases h
                · rename_i hy
                  rcases e3 : l[i + 2]? with _ | z
                  · rw [e3] at h; cases h
                  · rw [e3] at h
                    have hil3 := (List.getElem?_eq_some_iff.1 e3).1
                    simp only at h
                    split at h
                    · cases h
                    · rename_i hz
                      split at h
                      · rename_i ho
                        injection h with h
                        have hfr : freev l ((i : Int) + 2) = true := by
                          cases hq : freev l ((i : Int) + 2) with
                          | true => rfl
                          | false => exact absurd (.inr hq) hy
                        have hf3 := free_of hfr
                        exact ⟨3, _, .two x y z (getD_of e) hc.1 (getD_of e2) (by
                          by_cases hq : y.op = 1
                          · exact hq
                          · exact absurd (.inl hq) hy) (getD_of e3) (by omega) ho, fun j h1 h2 => by
                          rcases (show j = 1 ∨ j = 2 by omega) with rfl | rfl
                          · exact hf1
                          · exact hf3, by omega, h.symm⟩
                      · cases h
      · cases h
theorem Blk.many {l bs : List InsR} {at_ many : Nat} (h : Blk l at_ many bs) : 1 ≤ many ∧ many ≤ 3 ∧ bs.length ≤ 1 ∧ bs.length ≤ many := by cases h <;> simp
end Go.Proofs.YtahmnmpfjgddpaaGreatDoor
