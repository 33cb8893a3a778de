/- The texts TChg, TierC in one. -/
import Derived.Test.YtgiegkacilfofaaDoorTierSkips
import Derived.Test.YtgiegkacilfofaaDoorTierV
namespace Go.Proofs.YtgiegkacilfofaaDoor
set_option linter.unusedVariables false
set_option linter.unusedSimpArgs false
open Go.RowKit Go.Conc

/-- a cell that is no slice does not lie in a block of one slice -/
theorem cell_ne {w : World} {Q b o : Nat} {A0 : Option Addr} {n0 c0 : Nat} {t : TypeId} {u : Value} (hQ : w.heap[Q]? = some (.cells #[.slice A0 n0 c0] t (0, 0))) (h : w.cell? ⟨b, o, none⟩ = some u) (hu : ∀ A n c, u ≠ .slice A n c) : b ≠ Q := fun e => by
  subst e
  rw [cell_of_block hQ] at h
  have : o = 0 := by
    have := (Array.getElem?_eq_some_iff.1 h).1
    simp at this
    omega
  subst this
  have h : Value.slice A0 n0 c0 = u := Option.some.inj h
  exact hu _ _ _ h.symm
theorem insCells_int {l : List InsR} {u : Value} (h : u ∈ insCells l) : ∀ A n c, u ≠ .slice A n c := fun A n c e => by
  subst e
  induction l with
  | nil => simp [insCells] at h
  | cons x l ih =>
    have h : Value.slice A n c ∈ x.cells ++ insCells l := h
    rcases List.mem_append.1 h with h | h
    · simp [InsR.cells] at h
    · exact ih h
theorem Src.chgQ {w w' : World} {Q : Nat} {A0 : Option Addr} {n0 c0 : Nat} {t : TypeId} {l : List InsR} {V : Value} {n : Nat} (h : Src w V n (insCells l)) (hQ : w.heap[Q]? = some (.cells #[.slice A0 n0 c0] t (0, 0))) (hc : Chg (fun k => k = Q) w w') : Src w' V n (insCells l) := by
  rcases h with h | ⟨b, off, cap, e, hb, h1, h2, h3⟩
  · exact .inl h
  · exact .inr ⟨b, off, cap, e, Nat.lt_of_lt_of_le hb hc.size, h1, h2, fun j u hu => hc.cell (h3 j u hu) (fun e => cell_ne hQ (h3 j u hu) (insCells_int (List.mem_of_getElem? hu)) e)⟩
theorem FnsIs.chgQ {w w' : World} {Q : Nat} {A0 : Option Addr} {n0 c0 : Nat} {t : TypeId} {V : Value} {fs : List FnR} (h : FnsIs w V fs) (hQ : w.heap[Q]? = some (.cells #[.slice A0 n0 c0] t (0, 0))) (hc : Chg (fun k => k = Q) w w') : FnsIs w' V fs := by
  rcases h with h | ⟨b, off, cap, e, h1, h2, h3, h4⟩
  · exact .inl h
  · refine .inr ⟨b, off, cap, e, Nat.lt_of_lt_of_le h1 hc.size, h2, h3, fun j f hf => ?_⟩
    obtain ⟨A, c, ⟨q0, q1, q2, q3, q4⟩, hs⟩ := h4 j f hf
    have hn : b ≠ Q := cell_ne hQ q0 (fun A n c e => by cases e)
    exact ⟨A, c, ⟨hc.cell q0 hn, hc.cell q1 hn, hc.cell q2 hn, hc.cell q3 hn, hc.cell q4 hn⟩, hs.chgQ hQ hc⟩
end Go.Proofs.YtgiegkacilfofaaDoor
namespace Go.Proofs.YtgiegkacilfofaaDoor
set_option linter.unusedVariables false
set_option linter.unusedSimpArgs false
open Go.RowKit

/-- what an event is charged -/
def evW (fs : List FnR) (e : Int × Int) : Int := if e.1 = 1 then 2 * ((fs.getD e.2.toNat tFn).l.length : Int) else if e.1 = 3 then 50 else 0
def sumW (fs : List FnR) (l : List (Int × Int)) : Int := (l.map (evW fs)).sum
structure EvOk (n : Nat) (fn : Int) (e : Int × Int) : Prop where
  kind : 1 ≤ e.1 ∧ e.1 ≤ 4
  rng : 1 ≤ e.2 ∧ e.2 < (n : Int)
  own : e.1 = 4 ∨ e.2 = fn
structure Chd (T : TS) (fn : Int) (r : (List InsR × Bool × Int) × TS) (new : List (Int × Int)) : Prop where
  fs : r.2.fs = T.fs
  evs : r.2.evs = T.evs ++ new
  len : new.length ≤ 3
  ok : ∀ e ∈ new, EvOk T.fs.length fn e
  charge : r.1.2.2 = sumW T.fs new
  fast : r.1.2.1 = new.any (fun e => e.1 == 2)
  body : r.1.1 ≠ [] → r.1.2.1 = true
theorem head_mem {l : List (Int × List InsR)} (h : 0 < l.length) : ∃ e ∈ l, e.1 = (l.map Prod.fst).headD 0 := by
  cases l with
  | nil => simp at h
  | cons x l => exact ⟨x, List.mem_cons_self, rfl⟩
/-- behind the pick -/
theorem mid_chd {cap : Int} {T : TS} (h : TInv cap T) (hc : 1 ≤ cap) {fn : Nat} (hf : 1 ≤ fn ∧ fn < T.fs.length) (own : List Int) :
    (midV cap T fn own).1.fs = T.fs ∧ ∃ new, (midV cap T fn own).1.evs = T.evs ++ new ∧ new.length ≤ 2 ∧ (∀ e ∈ new, EvOk T.fs.length fn e ∧ e.1 ≠ 2) ∧ (midV cap T fn own).2 = sumW T.fs new := by
  unfold midV
  split
  · rename_i hp
    have hn : getl T.cache fn = none := by
      have := hp.2
      unfold hasV at this
      simpa using this
    have hw : evW T.fs (1, (fn : Int)) = 2 * ((T.f fn).l.length : Int) := by unfold evW TS.f; simp
    refine ⟨rfl, ?_⟩
    obtain ⟨p1, p2⟩ := putv_spec (body := (bodyV (pickedV T) fn (pickV T) own).1) hn hc
    by_cases hl : (T.cache.length : Int) = cap
    · obtain ⟨e, he, hee⟩ := head_mem (l := T.cache) (by omega)
      have hk := h.keys e he
      rw [hee] at hk
      refine ⟨[(1, (fn : Int)), (4, (T.cache.map Prod.fst).headD 0)], ?_, by simp, fun e he => ?_, ?_⟩
      · unfold compV putS
        simp only
        show (T.evs ++ [(1, (fn : Int))] ++ (if (putv cap T.cache fn _).2.1 = true then [(4, (putv cap T.cache fn _).1)] else [])) = _
        rw [p1 hl]
        simp
      · rcases List.mem_cons.1 he with rfl | he
        · exact ⟨⟨by simp, by simp only; omega, .inr rfl⟩, by simp⟩
        · rw [List.mem_singleton.1 he]
          exact ⟨⟨by simp, hk, .inl rfl⟩, by simp⟩
      · unfold sumW
        simp [hw]
        unfold evW
        simp
    · refine ⟨[(1, (fn : Int))], ?_, by simp, fun e he => ?_, ?_⟩
      · unfold compV putS
        simp only
        show (T.evs ++ [(1, (fn : Int))] ++ (if (putv cap T.cache fn _).2.1 = true then [(4, (putv cap T.cache fn _).1)] else [])) = _
        rw [p2 hl]
        simp
      · rw [List.mem_singleton.1 he]
        exact ⟨⟨by simp, by simp only; omega, .inr rfl⟩, by simp⟩
      · unfold sumW
        simp [hw]
  · split
    · refine ⟨rfl, [(4, (fn : Int))], rfl, by simp, fun e he => ?_, by unfold sumW evW; simp⟩
      rw [List.mem_singleton.1 he]
      exact ⟨⟨by simp, by simp only; omega, .inr rfl⟩, by simp⟩
    · exact ⟨rfl, [], by show T.evs = _; simp, by simp, fun e he => by simp at he, rfl⟩
theorem sumW_append (fs : List FnR) (a b : List (Int × Int)) : sumW fs (a ++ b) = sumW fs a + sumW fs b := by unfold sumW; rw [List.map_append, List.sum_append]
theorem enter_chd {cap : Int} {T : TS} (h : TInv cap T) (hc : 1 ≤ cap) (fn : Int) (args : List Int) : ∃ new, Chd T fn (enterV cap T fn args) new := by
  unfold enterV
  split
  · exact ⟨[], rfl, by simp, by simp, fun e he => by simp at he, rfl, rfl, fun h => absurd rfl h⟩
  · rename_i hf
    obtain ⟨n, hn⟩ : ∃ n : Nat, fn = n := ⟨fn.toNat, by omega⟩
    subst hn
    have hn : 1 ≤ n ∧ n < T.fs.length := by omega
    rw [Int.toNat_natCast]
    unfold enterN
    obtain ⟨m1, new, m2, m3, m4, m5⟩ := mid_chd h hc hn (seenV T n args)
    obtain ⟨⟨M, ch⟩, hM⟩ : ∃ z, z = midV cap T n (seenV T n args) := ⟨_, rfl⟩
    rw [← hM] at m1 m2 m5 ⊢
    simp only at m1 m2 m5 ⊢
    have hany : new.any (fun e => e.1 == 2) = false := by
      rw [List.any_eq_false]
      intro e he
      have := (m4 e he).2
      simpa using this
    unfold lastV
    split
    · exact ⟨new, m1, m2, by omega, fun e he => (m4 e he).1, m5, hany.symm, fun h => absurd rfl h⟩
    · have key : ∀ k : Int, (k = 2 ∨ k = 3) → ∀ e ∈ new ++ [(k, (n : Int))], EvOk T.fs.length n e := fun k hk e he => by
        rcases List.mem_append.1 he with he | he
        · exact (m4 e he).1
        · rw [List.mem_singleton.1 he]
          exact ⟨by simp only; omega, by simp only; omega, .inr rfl⟩
      have ent : ∀ body : List InsR, Chd T (n : Int) ((body, true, ch), noteV M 2 n) (new ++ [(2, (n : Int))]) := fun body =>
        ⟨m1, by show M.evs ++ _ = _; rw [m2, List.append_assoc], by rw [List.length_append]; simp; omega, key 2 (.inl rfl), by rw [sumW_append, ← m5]; show ch = ch + _; unfold sumW evW; simp, by show true = _; rw [List.any_append]; simp, fun _ => rfl⟩
      split
      · exact ⟨_, ent _⟩
      · split
        · exact ⟨_, ent _⟩
        · exact ⟨new ++ [(3, (n : Int))], m1, by show M.evs ++ _ = _; rw [m2, List.append_assoc], by rw [List.length_append]; simp; omega, key 3 (.inr rfl), by rw [sumW_append, ← m5]; show ch + 50 = ch + _; unfold sumW evW; simp, by show false = _; rw [List.any_append, hany]; rfl, fun h => absurd rfl h⟩
end Go.Proofs.YtgiegkacilfofaaDoor
