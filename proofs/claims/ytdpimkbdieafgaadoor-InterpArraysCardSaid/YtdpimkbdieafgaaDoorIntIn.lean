/- InterpInputs, plainly. -/
import Derived.Test.YtdpimkbdieafgaaDoorIntSt
import Derived.Test.YtdpimkbdieafgaaDoorIntMo
namespace Go.Proofs.YtdpimkbdieafgaaDoor
set_option linter.unusedVariables false
set_option linter.unusedSimpArgs false
open Go.RowKit

theorem step_plain {fs : List FnR} {f : Fr} {rest : List Fr} {g : GS} {i : InsR} (hi : curI fs f = i) (hn : i.op ≠ 15 ∧ i.op ≠ 16 ∧ i.op ≠ 17 ∧ i.op ≠ 18) (hf : ¬ (paid g i).fuel < (paid g i).now) {f2 : Fr} {g2 : GS} (hd : doesv i { f with at_ := f.at_ + 1 } (paid g i) = (0, f2, g2)) :
    step fs (.run (f :: rest) g) = .run (f2 :: rest) g2 := by
  rw [step_eq, hi, if_neg hf, if_neg (by omega), if_neg (by omega), if_neg (by omega), if_neg (by omega), hd]
  rfl
theorem step_stop {fs : List FnR} {f : Fr} {g : GS} {i : InsR} (hi : curI fs f = i) (ho : i.op = 18) (hf : ¬ (paid g i).fuel < (paid g i).now) : step fs (.run [f] g) = .over (paid g i) (top f.stack) 0 := by
  rw [step_eq, hi, if_neg hf, if_pos ho]
  rfl

def repL : Nat → List InsR
  | 0 => []
  | n + 1 => repL n ++ [⟨21, 0, 0⟩, ⟨2, 0, 0⟩, ⟨19, 0, 0⟩]
theorem repL_len (n : Nat) : (repL n).length = 3 * n := by
  induction n with
  | zero => rfl
  | succ n ih => rw [repL, List.length_append, ih]; simp; omega
theorem repL_get (n : Nat) : ∀ q, q < n → (repL n)[3 * q]? = some ⟨21, 0, 0⟩ ∧ (repL n)[3 * q + 1]? = some ⟨2, 0, 0⟩ ∧ (repL n)[3 * q + 2]? = some ⟨19, 0, 0⟩ := by
  induction n with
  | zero => intro q h; omega
  | succ n ih =>
    intro q hq
    have hl := repL_len n
    rw [repL]
    by_cases h : q < n
    · obtain ⟨a, b, c⟩ := ih q h
      rw [List.getElem?_append_left (by omega), List.getElem?_append_left (by omega), List.getElem?_append_left (by omega)]
      exact ⟨a, b, c⟩
    · obtain rfl : q = n := by omega
      rw [List.getElem?_append_right (by omega), List.getElem?_append_right (by omega), List.getElem?_append_right (by omega), hl, show 3 * q - 3 * q = 0 by omega, show 3 * q + 1 - 3 * q = 1 by omega, show 3 * q + 2 - 3 * q = 2 by omega]
      exact ⟨rfl, rfl, rfl⟩
def inL (n : Nat) : List InsR := repL n ++ [⟨1, 0, 0⟩, ⟨18, 0, 0⟩]
theorem inL_len (n : Nat) : (inL n).length = 3 * n + 2 := by unfold inL; rw [List.length_append, repL_len]; rfl
theorem inL_get (n : Nat) : (∀ q, q < n → (inL n)[3 * q]? = some ⟨21, 0, 0⟩ ∧ (inL n)[3 * q + 1]? = some ⟨2, 0, 0⟩ ∧ (inL n)[3 * q + 2]? = some ⟨19, 0, 0⟩) ∧ (inL n)[3 * n]? = some ⟨1, 0, 0⟩ ∧ (inL n)[3 * n + 1]? = some ⟨18, 0, 0⟩ := by
  have hl := repL_len n
  unfold inL
  refine ⟨fun q hq => ?_, ?_, ?_⟩
  · rw [List.getElem?_append_left (by omega), List.getElem?_append_left (by omega), List.getElem?_append_left (by omega)]
    exact repL_get n q hq
  · rw [List.getElem?_append_right (by omega), hl, Nat.sub_self]; rfl
  · rw [List.getElem?_append_right (by omega), hl, show 3 * n + 1 - 3 * n = 1 by omega]; rfl
def inF (n : Nat) : FnR := ⟨⟨#[]⟩, 0, 1, 0, inL n⟩
def inD (n p : Nat) : Int := if p = 3 * n + 1 then 1 else if p < 3 * n ∧ p % 3 = 2 then 1 else 0
theorem inF_ok (n : Nat) : CodeOk [inF n] := by
  refine ⟨⟨by simp, by simp⟩, rfl, fun f hf => ?_⟩
  obtain rfl : f = inF n := by simpa using hf
  have hl : (inF n).l.length = 3 * n + 2 := inL_len n
  refine ⟨by unfold hdr inF; simp, sty_straight (inD n) (by omega) (by unfold inD; rw [if_neg (by omega), if_neg (by omega)]) (fun p i hp => ?_)⟩
  have hpl : p < (inF n).l.length := (List.getElem?_eq_some_iff.1 hp).1
  have hp : (inL n)[p]? = some i := hp
  obtain ⟨g1, g2, g3⟩ := inL_get n
  have hcs : (∃ q, q < n ∧ p = 3 * q) ∨ (∃ q, q < n ∧ p = 3 * q + 1) ∨ (∃ q, q < n ∧ p = 3 * q + 2) ∨ p = 3 * n ∨ p = 3 * n + 1 := by
    by_cases h : p < 3 * n
    · have : p % 3 = 0 ∨ p % 3 = 1 ∨ p % 3 = 2 := by omega
      rcases this with h2 | h2 | h2
      · exact .inl ⟨p / 3, by omega, by omega⟩
      · exact .inr (.inl ⟨p / 3, by omega, by omega⟩)
      · exact .inr (.inr (.inl ⟨p / 3, by omega, by omega⟩))
    · omega
  rcases hcs with ⟨q, hq, rfl⟩ | ⟨q, hq, rfl⟩ | ⟨q, hq, rfl⟩ | rfl | rfl
  · rw [(g1 q hq).1] at hp
    injection hp with hp
    subst hp
    have e1 : inD n (3 * q) = 0 := by unfold inD; rw [if_neg (by omega), if_neg (by omega)]
    have e2 : inD n (3 * q + 1) = 0 := by unfold inD; rw [if_neg (by omega), if_neg (by omega)]
    rw [e1, e2]
    exact ⟨okAt_of (by simp [opOk, inF]) (by decide) rfl (by decide) (by decide) (by decide), by decide, by decide, (fun h => by cases h), fun _ => ⟨by omega, behind_of (by decide) rfl rfl (by decide) (by decide) (by decide) (by decide) (by decide)⟩⟩
  · rw [(g1 q hq).2.1] at hp
    injection hp with hp
    subst hp
    have e1 : inD n (3 * q + 1) = 0 := by unfold inD; rw [if_neg (by omega), if_neg (by omega)]
    have e2 : inD n (3 * q + 1 + 1) = 1 := by unfold inD; rw [if_neg (by omega), if_pos (by omega)]
    rw [e1, e2]
    exact ⟨okAt_of (by simp [opOk, inF]) (by decide) rfl (by decide) (by decide) (by decide), by decide, by decide, (fun h => by cases h), fun _ => ⟨by omega, behind_of (by decide) rfl rfl (by decide) (by decide) (by decide) (by decide) (by decide)⟩⟩
  · rw [(g1 q hq).2.2] at hp
    injection hp with hp
    subst hp
    have e1 : inD n (3 * q + 2) = 1 := by unfold inD; rw [if_neg (by omega), if_pos (by omega)]
    have e2 : inD n (3 * q + 2 + 1) = 0 := by unfold inD; rw [if_neg (by omega), if_neg (by omega)]
    rw [e1, e2]
    exact ⟨okAt_of (by simp [opOk, inF]) (by decide) rfl (by decide) (by decide) (by decide), by decide, by decide, (fun h => by cases h), fun _ => ⟨by omega, behind_of (by decide) rfl rfl (by decide) (by decide) (by decide) (by decide) (by decide)⟩⟩
  · rw [g2] at hp
    injection hp with hp
    subst hp
    have e1 : inD n (3 * n) = 0 := by unfold inD; rw [if_neg (by omega), if_neg (by omega)]
    have e2 : inD n (3 * n + 1) = 1 := by unfold inD; rw [if_pos rfl]
    rw [e1, e2]
    exact ⟨okAt_of (by simp [opOk, inF]) (by decide) rfl (by decide) (by decide) (by decide), by decide, by decide, (fun h => by cases h), fun _ => ⟨by omega, behind_of (by decide) rfl rfl (by decide) (by decide) (by decide) (by decide) (by decide)⟩⟩
  · rw [g3] at hp
    injection hp with hp
    subst hp
    have e1 : inD n (3 * n + 1) = 1 := by unfold inD; rw [if_pos rfl]
    rw [e1]
    exact ⟨okAt_of (by simp [opOk, inF]) (by decide) rfl (by decide) (by decide) (by decide), by decide, by decide, fun _ => by omega, fun h => absurd rfl h⟩

theorem in_cur (n p : Nat) (vars arrs stack : List Int) {i : InsR} (h : (inL n)[p]? = some i) : curI [inF n] ⟨0, p, vars, arrs, stack⟩ = i := by
  unfold curI
  show (inL n).getD p noIns = i
  rw [List.getD_eq_getElem?_getD, h]; rfl
theorem in_three (n q : Nat) (hq : q < n) (v : Int) (g : GS) (hf : g.now + 10 ≤ g.fuel) (hn : 0 ≤ g.now) : iter [inF n] 3 (.run [⟨0, 3 * q, [v], [], []⟩] g) = .run [⟨0, 3 * (q + 1), [g.i0.headD 0], [], []⟩] { g with now := g.now + 10, pr := g.pr ++ [g.i0.headD 0], i0 := g.i0.tail } := by
  obtain ⟨g1, g2, g3⟩ := (inL_get n).1 q hq
  have c1 : costv 21 = 4 ∨ True := .inr trivial
  have s1 := step_plain (fs := [inF n]) (f := ⟨0, 3 * q, [v], [], []⟩) (rest := []) (g := g) (in_cur n _ _ _ _ g1) (by decide) (by show ¬ g.fuel < g.now + costv 21; have := cost_all 21; have : costv 21 ≤ 10 := (by decide); omega) (f2 := ⟨0, 3 * q + 1, [g.i0.headD 0], [], []⟩) (g2 := { g with now := g.now + costv 21, i0 := g.i0.tail }) rfl
  have s2 := step_plain (fs := [inF n]) (f := ⟨0, 3 * q + 1, [g.i0.headD 0], [], []⟩) (rest := []) (g := { g with now := g.now + costv 21, i0 := g.i0.tail }) (in_cur n _ _ _ _ g2) (by decide) (by show ¬ g.fuel < g.now + costv 21 + costv 2; have : costv 21 + costv 2 ≤ 10 := (by decide); omega) (f2 := ⟨0, 3 * q + 2, [g.i0.headD 0], [], [g.i0.headD 0]⟩) (g2 := { g with now := g.now + costv 21 + costv 2, i0 := g.i0.tail }) rfl
  have s3 := step_plain (fs := [inF n]) (f := ⟨0, 3 * q + 2, [g.i0.headD 0], [], [g.i0.headD 0]⟩) (rest := []) (g := { g with now := g.now + costv 21 + costv 2, i0 := g.i0.tail }) (in_cur n _ _ _ _ g3) (by decide) (by show ¬ g.fuel < g.now + costv 21 + costv 2 + costv 19; have : costv 21 + costv 2 + costv 19 = 10 := (by decide); omega) (f2 := ⟨0, 3 * q + 3, [g.i0.headD 0], [], []⟩) (g2 := { g with now := g.now + costv 21 + costv 2 + costv 19, i0 := g.i0.tail, pr := g.pr ++ [g.i0.headD 0] }) rfl
  show step _ (step _ (step _ _)) = _
  rw [s1, s2, s3]
  have e : g.now + costv 21 + costv 2 + costv 19 = g.now + 10 := by have : costv 21 + costv 2 + costv 19 = 10 := by decide
                                                                    omega
  rw [e, show 3 * (q + 1) = 3 * q + 3 by omega]
theorem in_all (n : Nat) (hn : n ≤ 50) (pub sec : List Int) : ∀ q, q ≤ n → ∃ v, iter [inF n] (3 * q) (.run [newFr [inF n] 0 []] (startG pub sec 10000 0)) = .run [⟨0, 3 * q, [v], [], []⟩] { startG pub sec 10000 0 with now := 10 * q, pr := (List.range q).map (fun j => pub.getD j 0), i0 := pub.drop q }
  | 0, _ => ⟨0, rfl⟩
  | q + 1, hq => by
    obtain ⟨v, hv⟩ := in_all n hn pub sec q (by omega)
    refine ⟨pub.getD q 0, ?_⟩
    rw [show 3 * (q + 1) = 3 * q + 3 by omega, iter_add, hv]
    have e10 : (startG pub sec 10000 0).fuel = 10000 := by rfl
    have h := in_three n q (by omega) v { startG pub sec 10000 0 with now := 10 * q, pr := (List.range q).map (fun j => pub.getD j 0), i0 := pub.drop q } (by show (10 * (q : Int)) + 10 ≤ (startG pub sec 10000 0).fuel; rw [e10]; omega) (by show (0 : Int) ≤ 10 * q; omega)
    rw [show 3 * (q + 1) = 3 * q + 3 by omega] at h
    rw [h]
    have e1 : (pub.drop q).headD 0 = pub.getD q 0 := by
      rw [List.headD_eq_head?_getD, List.head?_drop, List.getD_eq_getElem?_getD]
    have e2 : (pub.drop q).tail = pub.drop (q + 1) := by rw [List.tail_drop]
    have e3 : (List.range (q + 1)).map (fun j => pub.getD j 0) = (List.range q).map (fun j => pub.getD j 0) ++ [pub.getD q 0] := by rw [List.range_succ, List.map_append]; rfl
    have e4 : (10 : Int) * ((q + 1 : Nat) : Int) = 10 * q + 10 := by omega
    simp only [e1, e2, e3, e4]
theorem runO_inputs {n : Nat} (hn : n ≤ 50) {pub sec : List Int} {o : OutR} (h : RunO [inF n] pub sec 10000 0 o) : o = ⟨(List.range n).map (fun j => pub.getD j 0), [], [], 10 * n + 3, 0, 0⟩ := by
  obtain ⟨v, hv⟩ := in_all n hn pub sec n (Nat.le_refl _)
  obtain ⟨_, g2, g3⟩ := inL_get n
  have e10 : (startG pub sec 10000 0).fuel = 10000 := by rfl
  have c3 : costv 1 + costv 18 = 3 := by decide
  have c1 : 0 ≤ costv 18 := (cost_all 18).1
  have s1 := step_plain (fs := [inF n]) (f := ⟨0, 3 * n, [v], [], []⟩) (rest := []) (g := { startG pub sec 10000 0 with now := 10 * n, pr := (List.range n).map (fun j => pub.getD j 0), i0 := pub.drop n }) (in_cur n _ _ _ _ g2) (by decide) (by show ¬ (startG pub sec 10000 0).fuel < 10 * (n : Int) + costv 1; rw [e10]; omega) (f2 := ⟨0, 3 * n + 1, [v], [], [0]⟩) (g2 := { startG pub sec 10000 0 with now := 10 * n + costv 1, pr := (List.range n).map (fun j => pub.getD j 0), i0 := pub.drop n }) rfl
  have s2 := step_stop (fs := [inF n]) (f := ⟨0, 3 * n + 1, [v], [], [0]⟩) (g := { startG pub sec 10000 0 with now := 10 * n + costv 1, pr := (List.range n).map (fun j => pub.getD j 0), i0 := pub.drop n }) (in_cur n _ _ _ _ g3) rfl (by show ¬ (startG pub sec 10000 0).fuel < 10 * (n : Int) + costv 1 + costv 18; rw [e10]; omega)
  have hk : iter [inF n] (3 * n + 2) (.run [newFr [inF n] 0 []] (startG pub sec 10000 0)) = .over (paid { startG pub sec 10000 0 with now := 10 * n + costv 1, pr := (List.range n).map (fun j => pub.getD j 0), i0 := pub.drop n } ⟨18, 0, 0⟩) 0 0 := by
    rw [iter_add, hv]
    show step _ (step _ _) = _
    rw [s1, s2]
    rfl
  rw [h.is (inF_ok n) hk]
  unfold outOf paid startG
  simp only [OutR.mk.injEq, true_and, and_true]
  omega
end Go.Proofs.YtdpimkbdieafgaaDoor
