/- Code without jumps is right. -/
import Derived.Test.YtdpimkbdieafgaaDoorLaw14
namespace Go.Proofs.YtdpimkbdieafgaaDoor
set_option linter.unusedVariables false
set_option linter.unusedSimpArgs false
open Go.RowKit

def rangeV (n : Nat) (d : Nat → Int) : List (Int × Int) := (List.range n).map fun (q : Nat) => ((q : Int), d q)
theorem rangeV_get (n : Nat) (d : Nat → Int) (p : Nat) : (rangeV n d)[p]? = if p < n then some ((p : Int), d p) else none := by
  unfold rangeV
  rw [List.getElem?_map]
  split
  · rw [List.getElem?_range ‹_›]; rfl
  · rw [List.getElem?_eq_none (by simp; omega)]; rfl
theorem rangeV_mem {n : Nat} {d : Nat → Int} {x : Int × Int} (h : x ∈ rangeV n d) : ∃ q, q < n ∧ x = ((q : Int), d q) := by
  unfold rangeV at h
  obtain ⟨q, hq, rfl⟩ := List.mem_map.1 h
  exact ⟨q, List.mem_range.1 hq, rfl⟩
theorem lookv_range {n : Nat} (d : Nat → Int) {p : Nat} (hp : p < n) : lookv (rangeV n d) (p : Int) = some (d p) := by
  cases h : lookv (rangeV n d) (p : Int) with
  | none =>
    have := lookv_none h ((p : Int), d p) (by unfold rangeV; exact List.mem_map.2 ⟨p, List.mem_range.2 hp, rfl⟩)
    exact absurd rfl this
  | some e =>
    obtain ⟨q, _, e2⟩ := rangeV_mem (lookv_some h)
    injection e2 with e3 e4
    have : p = q := by omega
    subst this
    rw [e4]
theorem sty_straight {fs : List FnR} {f : FnR} (d : Nat → Int) (hl : 0 < f.l.length) (h0 : d 0 = 0)
    (hok : ∀ (p : Nat) i, f.l[p]? = some i → okAt fs f i (d p) = true ∧ i.op ≠ 15 ∧ i.op ≠ 16 ∧ (i.op = 18 → p + 1 = f.l.length) ∧ (i.op ≠ 18 → p + 1 < f.l.length ∧ d (p + 1) = behind fs i (d p))) : STy fs f := by
  have hins : ∀ q : Nat, q < f.l.length → f.l[q]? = some (insAt f (q : Int)) := fun q hq => by
    unfold insAt
    rw [Int.toNat_natCast, List.getD_eq_getElem?_getD, List.getElem?_eq_getElem hq]; rfl
  refine ⟨rangeV f.l.length d, ⟨by rw [show (0 : Int) = ((0 : Nat) : Int) from rfl, lookv_range d hl, h0]; rfl, fun p dp hp => ?_⟩, fun i x hi => ?_⟩
  · obtain ⟨q, hq, e⟩ := rangeV_mem (lookv_some hp)
    injection e with e1 e2
    subst e1 e2
    obtain ⟨h1, h15, h16, h18, hn⟩ := hok q _ (hins q hq)
    refine ⟨by omega, h1, fun s hs => ?_⟩
    unfold succs at hs
    by_cases h : (insAt f (q : Int)).op = 18
    · rw [if_pos h] at hs; cases hs
    · rw [if_neg h, if_neg h15, if_neg h16] at hs
      rw [List.mem_singleton.1 hs]
      obtain ⟨h2, h3⟩ := hn h
      rw [show (q : Int) + 1 = ((q + 1 : Nat) : Int) by omega, lookv_range d h2, h3]
  · rw [rangeV_get] at hi
    split at hi
    · rename_i hlt
      injection hi with hi
      subst hi
      cases i with
      | zero => left; rw [h0]; rfl
      | succ j =>
        right
        obtain ⟨h1, h15, h16, h18, hn⟩ := hok j _ (hins j (by omega))
        have hne : (insAt f (j : Int)).op ≠ 18 := fun h => by have := h18 h; omega
        refine ⟨j, ((j : Int), d j), by omega, by rw [rangeV_get, if_pos (by omega)], h1, ?_, (hn hne).2⟩
        show ((j + 1 : Nat) : Int) ∈ succs (insAt f (j : Int)) (j : Int)
        unfold succs
        rw [if_neg hne, if_neg h15, if_neg h16]
        simp
    · cases hi
theorem okAt_of {fs : List FnR} {f : FnR} {i : InsR} {d t : Int} (ho : opOk fs.length f i = true) (h17 : i.op ≠ 17) (ht : takesv i.op = t) (h0 : 0 ≤ t) (hd : t ≤ d) (hd2 : d ≤ 1000) : okAt fs f i d = true := by
  unfold okAt takesAt
  rw [if_neg h17, ht, ho, wrap_id (by omega), Bool.true_and, decide_eq_true_eq]
  omega
theorem behind_of {fs : List FnR} {i : InsR} {d t u e : Int} (h17 : i.op ≠ 17) (ht : takesv i.op = t) (hu : leavesv i.op = u) (h0 : 0 ≤ t) (hu0 : 0 ≤ u ∧ u ≤ 1) (hd : t ≤ d) (hd2 : d ≤ 1000) (he : e = d - t + u) : e = behind fs i d := by
  unfold behind takesAt
  rw [if_neg h17, ht, hu, wrap_id (x := d - t) (by omega), wrap_id (by omega)]
  exact he
end Go.Proofs.YtdpimkbdieafgaaDoor
