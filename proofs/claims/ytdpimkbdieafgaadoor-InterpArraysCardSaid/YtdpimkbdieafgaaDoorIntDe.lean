/- InterpDepth, plainly. -/
import Derived.Test.YtdpimkbdieafgaaDoorIntIn
namespace Go.Proofs.YtdpimkbdieafgaaDoor
set_option linter.unusedVariables false
set_option linter.unusedSimpArgs false
open Go.RowKit

def deL : List InsR := [⟨2, 0, 0⟩, ⟨16, 7, 0⟩, ⟨2, 0, 0⟩, ⟨1, 0, 1⟩, ⟨7, 0, 0⟩, ⟨17, 1, 0⟩, ⟨18, 0, 0⟩, ⟨1, 0, 5⟩, ⟨18, 0, 0⟩]
def deM (n : Int) : List InsR := [⟨1, 0, n⟩, ⟨17, 1, 0⟩, ⟨18, 0, 0⟩]
def deF (n : Int) : List FnR := [⟨⟨#[]⟩, 0, 0, 0, deM n⟩, ⟨⟨#[102]⟩, 1, 1, 0, deL⟩]
theorem deF_ok (n : Int) : CodeOk (deF n) := by
  refine ⟨⟨by simp [deF], by simp [deF]⟩, rfl, fun f hf => ?_⟩
  have h : f = ⟨⟨#[]⟩, 0, 0, 0, deM n⟩ ∨ f = ⟨⟨#[102]⟩, 1, 1, 0, deL⟩ := by simpa [deF] using hf
  rcases h with rfl | rfl
  · exact ⟨by unfold hdr; simp, sty_of_chk [(0, 0), (1, 1), (2, 1)] (by kernel_rfl)⟩
  · exact ⟨by unfold hdr; simp, sty_of_chk [(0, 0), (1, 1), (2, 0), (7, 0), (3, 1), (8, 1), (4, 2), (5, 1), (6, 1)] (by kernel_rfl)⟩
theorem step_jzero {fs : List FnR} {f : Fr} {rest : List Fr} {g : GS} {i : InsR} (hi : curI fs f = i) (ho : i.op = 16) (hf : ¬ (paid g i).fuel < (paid g i).now) (ht : top f.stack = 0) : step fs (.run (f :: rest) g) = .run ({ f with at_ := i.a.toNat, stack := f.stack.dropLast } :: rest) (paid g i) := by
  rw [step_eq, hi, if_neg hf, if_neg (by omega), if_pos ho, if_pos ht]
theorem step_jon {fs : List FnR} {f : Fr} {rest : List Fr} {g : GS} {i : InsR} (hi : curI fs f = i) (ho : i.op = 16) (hf : ¬ (paid g i).fuel < (paid g i).now) (ht : ¬ top f.stack = 0) : step fs (.run (f :: rest) g) = .run ({ f with at_ := f.at_ + 1, stack := f.stack.dropLast } :: rest) (paid g i) := by
  rw [step_eq, hi, if_neg hf, if_neg (by omega), if_pos ho, if_neg ht]
theorem step_in {fs : List FnR} {f : Fr} {rest : List Fr} {g : GS} {i : InsR} (hi : curI fs f = i) (ho : i.op = 17) (hf : ¬ (paid g i).fuel < (paid g i).now) (hd : ¬ 64 < rest.length + 1) : step fs (.run (f :: rest) g) = .run (newFr fs i.a.toNat (f.stack.drop (f.stack.length - parsOf fs i.a)) :: { f with at_ := f.at_ + 1, stack := f.stack.take (f.stack.length - parsOf fs i.a) } :: rest) (paid g i) := by
  rw [step_eq, hi, if_neg hf, if_neg (by omega), if_neg (by omega), if_neg (by omega), if_pos ho, if_neg hd]
theorem step_deep {fs : List FnR} {f : Fr} {rest : List Fr} {g : GS} {i : InsR} (hi : curI fs f = i) (ho : i.op = 17) (hf : ¬ (paid g i).fuel < (paid g i).now) (hd : 64 < rest.length + 1) : step fs (.run (f :: rest) g) = .over (paid g i) 0 3 := by
  rw [step_eq, hi, if_neg hf, if_neg (by omega), if_neg (by omega), if_neg (by omega), if_pos ho, if_pos hd]
theorem step_back {fs : List FnR} {f : Fr} {rest : List Fr} {g : GS} {i : InsR} (hi : curI fs f = i) (ho : i.op = 18) (hf : ¬ (paid g i).fuel < (paid g i).now) : step fs (.run (f :: rest) g) = retC (top f.stack) rest (paid g i) := by
  rw [step_eq, hi, if_neg hf, if_pos ho]
def later (g : GS) (z : Int) : GS := { g with now := g.now + z }
theorem later_add (g : GS) (a b : Int) : later (later g a) b = later g (a + b) := by unfold later; simp only [Int.add_assoc]
theorem de_paid (g : GS) (z : Int) (i : InsR) {c : Int} (hc : costv i.op = c) : paid (later g z) i = later g (z + c) := by unfold paid later; simp only [hc, Int.add_assoc]
theorem later_zero (g : GS) : later g 0 = g := by unfold later; simp
theorem dep_zero (n : Int) (rest : List Fr) (g : GS) (hf : g.now + 5 ≤ g.fuel) : iter (deF n) 4 (.run (⟨1, 0, [0], [], []⟩ :: rest) g) = retC 5 rest (later g 5) := by
  have hfl : ∀ z : Int, z ≤ 5 → ¬ (later g z).fuel < (later g z).now := fun z hz => by show ¬ g.fuel < g.now + z; omega
  have p1 : paid g ⟨2, 0, 0⟩ = later g 1 := rfl
  have p2 : paid (later g 1) ⟨16, 7, 0⟩ = later g 2 := de_paid g 1 _ rfl
  have p3 : paid (later g 2) ⟨1, 0, 5⟩ = later g 3 := de_paid g 2 _ rfl
  have p4 : paid (later g 3) ⟨18, 0, 0⟩ = later g 5 := de_paid g 3 _ rfl
  have s1 := step_plain (fs := deF n) (f := ⟨1, 0, [0], [], []⟩) (rest := rest) (g := g) (i := ⟨2, 0, 0⟩) rfl (by decide) (by rw [p1]; exact hfl 1 (by decide)) (f2 := ⟨1, 1, [0], [], [0]⟩) (g2 := later g 1) rfl
  have s2 := step_jzero (fs := deF n) (f := ⟨1, 1, [0], [], [0]⟩) (rest := rest) (g := later g 1) (i := ⟨16, 7, 0⟩) rfl rfl (by rw [p2]; exact hfl 2 (by decide)) rfl
  have s3 := step_plain (fs := deF n) (f := ⟨1, 7, [0], [], []⟩) (rest := rest) (g := later g 2) (i := ⟨1, 0, 5⟩) rfl (by decide) (by rw [p3]; exact hfl 3 (by decide)) (f2 := ⟨1, 8, [0], [], [5]⟩) (g2 := later g 3) (by rw [p3]; rfl)
  have s4 := step_back (fs := deF n) (f := ⟨1, 8, [0], [], [5]⟩) (rest := rest) (g := later g 3) (i := ⟨18, 0, 0⟩) rfl rfl (by rw [p4]; exact hfl 5 (by decide))
  rw [p2] at s2
  rw [p4] at s4
  show step _ (step _ (step _ (step _ _))) = _
  rw [s1, s2]
  show step _ (step _ (.run (⟨1, 7, [0], [], []⟩ :: rest) (later g 2))) = _
  rw [s3, s4]
  rfl
theorem dep_sub (k : Nat) (hk : k ≤ 1000) : doV 9 ((k + 1 : Nat) : Int) 1 = ((k : Int), true) := by
  unfold doV
  rw [if_neg (by decide), if_neg (by decide), if_neg (by decide), if_pos rfl, wrap_id (by omega)]
  congr 1
  omega
theorem dep_run (n : Int) : ∀ (k : Nat) (rest : List Fr) (g : GS), k ≤ 1000 → rest.length + k ≤ 64 → g.now + (17 * k + 5) ≤ g.fuel → ∃ m, iter (deF n) m (.run (⟨1, 0, [(k : Int)], [], []⟩ :: rest) g) = retC 5 rest (later g (17 * k + 5))
  | 0, rest, g, _, _, hf => ⟨4, dep_zero n rest g (by omega)⟩
  | k + 1, rest, g, hk, hr, hf => by
    have hfl : ∀ z : Int, z ≤ 17 * k + 22 → ¬ (later g z).fuel < (later g z).now := fun z hz => by show ¬ g.fuel < g.now + z; omega
    have p1 : paid g ⟨2, 0, 0⟩ = later g 1 := rfl
    have p2 : paid (later g 1) ⟨16, 7, 0⟩ = later g 2 := de_paid g 1 _ rfl
    have p3 : paid (later g 2) ⟨2, 0, 0⟩ = later g 3 := de_paid g 2 _ rfl
    have p4 : paid (later g 3) ⟨1, 0, 1⟩ = later g 4 := de_paid g 3 _ rfl
    have p5 : paid (later g 4) ⟨7, 0, 0⟩ = later g 5 := de_paid g 4 _ rfl
    have p6 : paid (later g 5) ⟨17, 1, 0⟩ = later g 15 := de_paid g 5 _ rfl
    obtain ⟨x, hx⟩ : ∃ x, x = ((k + 1 : Nat) : Int) := ⟨_, rfl⟩
    rw [← hx]
    have s1 := step_plain (fs := deF n) (f := ⟨1, 0, [x], [], []⟩) (rest := rest) (g := g) (i := ⟨2, 0, 0⟩) rfl (by decide) (by rw [p1]; exact hfl 1 (by omega)) (f2 := ⟨1, 1, [x], [], [x]⟩) (g2 := later g 1) rfl
    have s2 := step_jon (fs := deF n) (f := ⟨1, 1, [x], [], [x]⟩) (rest := rest) (g := later g 1) (i := ⟨16, 7, 0⟩) rfl rfl (by rw [p2]; exact hfl 2 (by omega)) (by show ¬ x = 0; omega)
    have s3 := step_plain (fs := deF n) (f := ⟨1, 2, [x], [], []⟩) (rest := rest) (g := later g 2) (i := ⟨2, 0, 0⟩) rfl (by decide) (by rw [p3]; exact hfl 3 (by omega)) (f2 := ⟨1, 3, [x], [], [x]⟩) (g2 := later g 3) (by rw [p3]; rfl)
    have s4 := step_plain (fs := deF n) (f := ⟨1, 3, [x], [], [x]⟩) (rest := rest) (g := later g 3) (i := ⟨1, 0, 1⟩) rfl (by decide) (by rw [p4]; exact hfl 4 (by omega)) (f2 := ⟨1, 4, [x], [], [x, 1]⟩) (g2 := later g 4) (by rw [p4]; rfl)
    have hd := doesv_op2 7 0 0 ⟨1, 5, [x], [], [x, 1]⟩ (later g 5) [] x 1 rfl (by decide)
    rw [show (7 : Int) + 2 = 9 from rfl, hx, dep_sub k (by omega), ← hx] at hd
    have s5 := step_plain (fs := deF n) (f := ⟨1, 4, [x], [], [x, 1]⟩) (rest := rest) (g := later g 4) (i := ⟨7, 0, 0⟩) rfl (by decide) (by rw [p5]; exact hfl 5 (by omega)) (f2 := ⟨1, 5, [x], [], [(k : Int)]⟩) (g2 := later g 5) (by rw [p5]; exact hd)
    have s6 := step_in (fs := deF n) (f := ⟨1, 5, [x], [], [(k : Int)]⟩) (rest := rest) (g := later g 5) (i := ⟨17, 1, 0⟩) rfl rfl (by rw [p6]; exact hfl 15 (by omega)) (by omega)
    rw [p2] at s2
    rw [p6] at s6
    obtain ⟨m, hm⟩ := dep_run n k (⟨1, 6, [x], [], []⟩ :: rest) (later g 15) (by omega) (by simp; omega) (by show g.now + 15 + (17 * (k : Int) + 5) ≤ g.fuel; omega)
    have p7 : paid (later g (15 + (17 * k + 5))) ⟨18, 0, 0⟩ = later g (15 + (17 * k + 5) + 2) := de_paid g _ _ rfl
    have s7 := step_back (fs := deF n) (f := ⟨1, 6, [x], [], [5]⟩) (rest := rest) (g := later g (15 + (17 * k + 5))) (i := ⟨18, 0, 0⟩) rfl rfl (by rw [p7]; exact hfl _ (by omega))
    refine ⟨6 + (m + 1), ?_⟩
    rw [iter_add]
    have h6 : iter (deF n) 6 (.run (⟨1, 0, [x], [], []⟩ :: rest) g) = .run (⟨1, 0, [(k : Int)], [], []⟩ :: ⟨1, 6, [x], [], []⟩ :: rest) (later g 15) := by
      show step _ (step _ (step _ (step _ (step _ (step _ _))))) = _
      rw [s1, s2]
      show step _ (step _ (step _ (step _ (.run (⟨1, 2, [x], [], []⟩ :: rest) (later g 2))))) = _
      rw [s3, s4, s5, s6]
      rfl
    rw [h6, iter_add, hm, later_add]
    show step _ (.run (⟨1, 6, [x], [], [5]⟩ :: rest) (later g (15 + (17 * (k : Int) + 5)))) = _
    rw [s7, p7]
    have e : (15 : Int) + (17 * (k : Int) + 5) + 2 = 17 * ((k + 1 : Nat) : Int) + 5 := by omega
    rw [e, ← hx]
    rfl
theorem dep_five (n : Int) (k : Nat) (rest : List Fr) (g : GS) (hk : k ≤ 1000) (hf : g.now + 5 ≤ g.fuel) : iter (deF n) 5 (.run (⟨1, 0, [((k + 1 : Nat) : Int)], [], []⟩ :: rest) g) = .run (⟨1, 5, [((k + 1 : Nat) : Int)], [], [(k : Int)]⟩ :: rest) (later g 5) := by
  have hfl : ∀ z : Int, z ≤ 5 → ¬ (later g z).fuel < (later g z).now := fun z hz => by show ¬ g.fuel < g.now + z; omega
  have p1 : paid g ⟨2, 0, 0⟩ = later g 1 := rfl
  have p2 : paid (later g 1) ⟨16, 7, 0⟩ = later g 2 := de_paid g 1 _ rfl
  have p3 : paid (later g 2) ⟨2, 0, 0⟩ = later g 3 := de_paid g 2 _ rfl
  have p4 : paid (later g 3) ⟨1, 0, 1⟩ = later g 4 := de_paid g 3 _ rfl
  have p5 : paid (later g 4) ⟨7, 0, 0⟩ = later g 5 := de_paid g 4 _ rfl
  obtain ⟨x, hx⟩ : ∃ x, x = ((k + 1 : Nat) : Int) := ⟨_, rfl⟩
  rw [← hx]
  have s1 := step_plain (fs := deF n) (f := ⟨1, 0, [x], [], []⟩) (rest := rest) (g := g) (i := ⟨2, 0, 0⟩) rfl (by decide) (by rw [p1]; exact hfl 1 (by omega)) (f2 := ⟨1, 1, [x], [], [x]⟩) (g2 := later g 1) rfl
  have s2 := step_jon (fs := deF n) (f := ⟨1, 1, [x], [], [x]⟩) (rest := rest) (g := later g 1) (i := ⟨16, 7, 0⟩) rfl rfl (by rw [p2]; exact hfl 2 (by omega)) (by show ¬ x = 0; omega)
  have s3 := step_plain (fs := deF n) (f := ⟨1, 2, [x], [], []⟩) (rest := rest) (g := later g 2) (i := ⟨2, 0, 0⟩) rfl (by decide) (by rw [p3]; exact hfl 3 (by omega)) (f2 := ⟨1, 3, [x], [], [x]⟩) (g2 := later g 3) (by rw [p3]; rfl)
  have s4 := step_plain (fs := deF n) (f := ⟨1, 3, [x], [], [x]⟩) (rest := rest) (g := later g 3) (i := ⟨1, 0, 1⟩) rfl (by decide) (by rw [p4]; exact hfl 4 (by omega)) (f2 := ⟨1, 4, [x], [], [x, 1]⟩) (g2 := later g 4) (by rw [p4]; rfl)
  have hd := doesv_op2 7 0 0 ⟨1, 5, [x], [], [x, 1]⟩ (later g 5) [] x 1 rfl (by decide)
  rw [show (7 : Int) + 2 = 9 from rfl, hx, dep_sub k (by omega), ← hx] at hd
  have s5 := step_plain (fs := deF n) (f := ⟨1, 4, [x], [], [x, 1]⟩) (rest := rest) (g := later g 4) (i := ⟨7, 0, 0⟩) rfl (by decide) (by rw [p5]; exact hfl 5 (by omega)) (f2 := ⟨1, 5, [x], [], [(k : Int)]⟩) (g2 := later g 5) (by rw [p5]; exact hd)
  rw [p2] at s2
  show step _ (step _ (step _ (step _ (step _ _)))) = _
  rw [s1, s2]
  show step _ (step _ (step _ (.run (⟨1, 2, [x], [], []⟩ :: rest) (later g 2)))) = _
  rw [s3, s4, s5]
theorem dep_over (n : Int) : ∀ (k : Nat) (rest : List Fr) (g : GS), k ≤ 1000 → 65 ≤ rest.length + k → rest.length ≤ 64 → g.now + 17 * k ≤ g.fuel → ∃ m g', iter (deF n) m (.run (⟨1, 0, [(k : Int)], [], []⟩ :: rest) g) = .over g' 0 3
  | 0, rest, g, _, h, h2, _ => by omega
  | k + 1, rest, g, hk, h, h2, hf => by
    have h5 := dep_five n k rest g (by omega) (by omega)
    have p6 : paid (later g 5) ⟨17, 1, 0⟩ = later g 15 := de_paid g 5 _ rfl
    have hfl : ¬ (paid (later g 5) ⟨17, 1, 0⟩).fuel < (paid (later g 5) ⟨17, 1, 0⟩).now := by rw [p6]; show ¬ g.fuel < g.now + 15; omega
    by_cases hd : 64 < rest.length + 1
    · refine ⟨5 + 1, later g 15, ?_⟩
      rw [iter_add, h5]
      exact (step_deep (fs := deF n) (f := ⟨1, 5, [((k + 1 : Nat) : Int)], [], [(k : Int)]⟩) (rest := rest) (g := later g 5) (i := ⟨17, 1, 0⟩) rfl rfl hfl hd).trans (by rw [p6])
    · have s6 := step_in (fs := deF n) (f := ⟨1, 5, [((k + 1 : Nat) : Int)], [], [(k : Int)]⟩) (rest := rest) (g := later g 5) (i := ⟨17, 1, 0⟩) rfl rfl hfl hd
      rw [p6] at s6
      obtain ⟨m, g', hm⟩ := dep_over n k (⟨1, 6, [((k + 1 : Nat) : Int)], [], []⟩ :: rest) (later g 15) (by omega) (by simp; omega) (by simp; omega) (by show g.now + 15 + 17 * (k : Int) ≤ g.fuel; omega)
      refine ⟨5 + (1 + m), g', ?_⟩
      rw [iter_add, h5, iter_add]
      have e1 : iter (deF n) 1 (.run (⟨1, 5, [((k + 1 : Nat) : Int)], [], [(k : Int)]⟩ :: rest) (later g 5)) = step (deF n) (.run (⟨1, 5, [((k + 1 : Nat) : Int)], [], [(k : Int)]⟩ :: rest) (later g 5)) := rfl
      rw [e1, s6]
      exact hm
theorem dep_main (n : Nat) : iter (deF (n : Int)) 2 (.run [newFr (deF (n : Int)) 0 []] (startG [] [] 100000 0)) = .run [⟨1, 0, [(n : Int)], [], []⟩, ⟨0, 2, [], [], []⟩] (later (startG [] [] 100000 0) 11) := by
  have s1 := step_plain (fs := deF (n : Int)) (f := ⟨0, 0, [], [], []⟩) (rest := []) (g := startG [] [] 100000 0) (i := ⟨1, 0, (n : Int)⟩) rfl ⟨(by decide : (1 : Int) ≠ 15), (by decide : (1 : Int) ≠ 16), (by decide : (1 : Int) ≠ 17), (by decide : (1 : Int) ≠ 18)⟩ (show ¬ (startG [] [] 100000 0).fuel < (startG [] [] 100000 0).now + costv 1 by decide) (f2 := ⟨0, 1, [], [], [(n : Int)]⟩) (g2 := later (startG [] [] 100000 0) 1) rfl
  have p2 : paid (later (startG [] [] 100000 0) 1) ⟨17, 1, 0⟩ = later (startG [] [] 100000 0) 11 := de_paid _ 1 _ rfl
  have s2 := step_in (fs := deF (n : Int)) (f := ⟨0, 1, [], [], [(n : Int)]⟩) (rest := []) (g := later (startG [] [] 100000 0) 1) (i := ⟨17, 1, 0⟩) rfl rfl (by decide) (by decide)
  rw [p2] at s2
  have e : iter (deF (n : Int)) 2 (.run [newFr (deF (n : Int)) 0 []] (startG [] [] 100000 0)) = step (deF (n : Int)) (step (deF (n : Int)) (.run [⟨0, 0, [], [], []⟩] (startG [] [] 100000 0))) := rfl
  rw [e, s1, s2]
  rfl
theorem runO_depth {n : Nat} (hn : n ≤ 80) {o : OutR} (h : RunO (deF (n : Int)) [] [] 100000 0 o) : (63 < n → o.err = 3 ∧ o.res = 0) ∧ (n ≤ 63 → o.err = 0 ∧ o.res = 5 ∧ o.clk = 18 + 17 * n) := by
  have e10 : (startG [] [] 100000 0).fuel = 100000 := by rfl
  have e0 : (startG [] [] 100000 0).now = 0 := rfl
  refine ⟨fun hk => ?_, fun hk => ?_⟩
  · obtain ⟨m, g', hm⟩ := dep_over (n : Int) n [⟨0, 2, [], [], []⟩] (later (startG [] [] 100000 0) 11) (by omega) (by simp; omega) (by simp) (by show (0 : Int) + 11 + 17 * (n : Int) ≤ (startG [] [] 100000 0).fuel; rw [e10]; omega)
    have hk2 : iter (deF (n : Int)) (2 + m) (.run [newFr (deF (n : Int)) 0 []] (startG [] [] 100000 0)) = .over g' 0 3 := by rw [iter_add, dep_main]; exact hm
    rw [h.is (deF_ok _) hk2]
    exact ⟨rfl, rfl⟩
  · obtain ⟨m, hm⟩ := dep_run (n : Int) n [⟨0, 2, [], [], []⟩] (later (startG [] [] 100000 0) 11) (by omega) (by simp; omega) (by show (0 : Int) + 11 + (17 * (n : Int) + 5) ≤ (startG [] [] 100000 0).fuel; rw [e10]; omega)
    have p3 : paid (later (startG [] [] 100000 0) (11 + (17 * (n : Int) + 5))) ⟨18, 0, 0⟩ = later (startG [] [] 100000 0) (11 + (17 * (n : Int) + 5) + 2) := de_paid _ _ _ rfl
    have s3 := step_stop (fs := deF (n : Int)) (f := ⟨0, 2, [], [], [5]⟩) (g := later (startG [] [] 100000 0) (11 + (17 * (n : Int) + 5))) (i := ⟨18, 0, 0⟩) rfl rfl (by rw [p3]; show ¬ (startG [] [] 100000 0).fuel < (0 : Int) + (11 + (17 * (n : Int) + 5) + 2); rw [e10]; omega)
    have hk2 : iter (deF (n : Int)) (2 + (m + 1)) (.run [newFr (deF (n : Int)) 0 []] (startG [] [] 100000 0)) = .over (later (startG [] [] 100000 0) (11 + (17 * (n : Int) + 5) + 2)) 5 0 := by
      rw [iter_add, dep_main, iter_add, hm, later_add]
      exact s3.trans (by rw [p3]; rfl)
    rw [h.is (deF_ok _) hk2]
    refine ⟨rfl, rfl, ?_⟩
    show (0 : Int) + (11 + (17 * (n : Int) + 5) + 2) = 18 + 17 * n
    omega
end Go.Proofs.YtdpimkbdieafgaaDoor
