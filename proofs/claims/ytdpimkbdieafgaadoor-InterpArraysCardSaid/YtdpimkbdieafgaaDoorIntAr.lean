/- InterpArrays, plainly. -/
import Derived.Test.YtdpimkbdieafgaaDoorIntDe
namespace Go.Proofs.YtdpimkbdieafgaaDoor
set_option linter.unusedVariables false
set_option linter.unusedSimpArgs false
open Go.RowKit

/-- an instruction that is right where it stands, all but its numbers being known -/
theorem straight_at {fs : List FnR} {f : FnR} {op a n d e : Int} {p l : Nat} (ho : opOk fs.length f ⟨op, a, n⟩ = true) (h : op ≠ 17 ∧ op ≠ 15 ∧ op ≠ 16 ∧ 0 ≤ takesv op ∧ takesv op ≤ d ∧ d ≤ 1000 ∧ (0 ≤ leavesv op ∧ leavesv op ≤ 1) ∧ (op = 18 → p + 1 = l) ∧ (op ≠ 18 → p + 1 < l ∧ e = d - takesv op + leavesv op)) :
    okAt fs f ⟨op, a, n⟩ d = true ∧ (⟨op, a, n⟩ : InsR).op ≠ 15 ∧ (⟨op, a, n⟩ : InsR).op ≠ 16 ∧ ((⟨op, a, n⟩ : InsR).op = 18 → p + 1 = l) ∧ ((⟨op, a, n⟩ : InsR).op ≠ 18 → p + 1 < l ∧ e = behind fs ⟨op, a, n⟩ d) := by
  obtain ⟨h17, h15, h16, t0, td, d1, lv, h18, hn⟩ := h
  exact ⟨okAt_of ho h17 rfl t0 td d1, h15, h16, h18, fun hh => ⟨(hn hh).1, behind_of h17 rfl rfl t0 lv td d1 (hn hh).2⟩⟩
def arL (x y at_ v : Int) : List InsR := [⟨22, 0, x⟩, ⟨22, 1, y⟩, ⟨1, 0, at_⟩, ⟨1, 0, v⟩, ⟨24, 0, 0⟩, ⟨1, 0, at_⟩, ⟨23, 0, 0⟩, ⟨19, 0, 0⟩, ⟨1, 0, 0⟩, ⟨23, 1, 0⟩, ⟨19, 0, 0⟩, ⟨22, 0, x⟩, ⟨1, 0, at_⟩, ⟨23, 0, 0⟩, ⟨18, 0, 0⟩]
def arF (x y at_ v : Int) : FnR := ⟨⟨#[]⟩, 0, 0, 2, arL x y at_ v⟩
def arD (p : Nat) : Int := [0, 0, 0, 1, 2, 0, 1, 1, 0, 1, 1, 0, 0, 1, 1].getD p 0
theorem arF_ok {x y : Int} (at_ v : Int) (hx : 1 ≤ x ∧ x ≤ 40) (hy : 1 ≤ y ∧ y ≤ 40) : CodeOk [arF x y at_ v] := by
  refine ⟨⟨by simp, by simp⟩, rfl, fun f hf => ?_⟩
  obtain rfl : f = arF x y at_ v := by simpa using hf
  refine ⟨by unfold hdr arF; simp, sty_straight arD (by simp [arF, arL]) rfl (fun p i hp => ?_)⟩
  have hpl : p < (arF x y at_ v).l.length := (List.getElem?_eq_some_iff.1 hp).1
  have hl : (arF x y at_ v).l.length = 15 := rfl
  rw [hl] at hpl ⊢
  have hcs : p = 0 ∨ p = 1 ∨ p = 2 ∨ p = 3 ∨ p = 4 ∨ p = 5 ∨ p = 6 ∨ p = 7 ∨ p = 8 ∨ p = 9 ∨ p = 10 ∨ p = 11 ∨ p = 12 ∨ p = 13 ∨ p = 14 := by omega
  rcases hcs with rfl | rfl | rfl | rfl | rfl | rfl | rfl | rfl | rfl | rfl | rfl | rfl | rfl | rfl | rfl
  all_goals
    injection hp with hp
    subst hp
    exact straight_at (by simp [opOk, arF]; try omega) (by decide)

def arG (quota c : Int) (xss : List (List Int)) (pr : List Int) : GS := ⟨c, 1000, clampq quota, xss, [], [], pr, [], []⟩
theorem arG_start (quota : Int) : startG [] [] 1000 quota = arG quota 0 [] [] := rfl
theorem step_err {fs : List FnR} {f : Fr} {rest : List Fr} {g : GS} {i : InsR} (hi : curI fs f = i) (hn : i.op ≠ 15 ∧ i.op ≠ 16 ∧ i.op ≠ 17 ∧ i.op ≠ 18) (hf : ¬ (paid g i).fuel < (paid g i).now) {e : Int} {f2 : Fr} {g2 : GS} (he : e ≠ 0) (hd : doesv i { f with at_ := f.at_ + 1 } (paid g i) = (e, f2, g2)) :
    step fs (.run (f :: rest) g) = .over g2 0 e := by
  rw [step_eq, hi, if_neg hf, if_neg (by omega), if_neg (by omega), if_neg (by omega), if_neg (by omega), hd]
  exact if_neg he
theorem ar_cur {x y at_ v : Int} {p : Nat} {arrs stack : List Int} {i : InsR} (hi : (arL x y at_ v)[p]? = some i) : curI [arF x y at_ v] ⟨0, p, [], arrs, stack⟩ = i := by
  unfold curI
  show (arL x y at_ v).getD p noIns = i
  rw [List.getD_eq_getElem?_getD, hi]; rfl
theorem ar_step {x y at_ v quota c : Int} {xss : List (List Int)} {pr : List Int} {p : Nat} {arrs stack : List Int} {op a n : Int} (hi : (arL x y at_ v)[p]? = some ⟨op, a, n⟩) (hn : op ≠ 15 ∧ op ≠ 16 ∧ op ≠ 17 ∧ op ≠ 18) (c' : Int) (hc : c + costv op = c') (hf : c' ≤ 1000) {f2 : Fr} {g2 : GS}
    (hd : doesv ⟨op, a, n⟩ ⟨0, p + 1, [], arrs, stack⟩ (arG quota c' xss pr) = (0, f2, g2)) : step [arF x y at_ v] (.run [⟨0, p, [], arrs, stack⟩] (arG quota c xss pr)) = .run [f2] g2 := by
  refine step_plain (i := ⟨op, a, n⟩) (ar_cur hi) hn (by show ¬ (1000 : Int) < c + costv op; omega) ?_
  rw [show paid (arG quota c xss pr) ⟨op, a, n⟩ = arG quota c' xss pr by subst hc; rfl]
  exact hd
theorem ar_err {x y at_ v quota c : Int} {xss : List (List Int)} {pr : List Int} {p : Nat} {arrs stack : List Int} {op a n : Int} (hi : (arL x y at_ v)[p]? = some ⟨op, a, n⟩) (hn : op ≠ 15 ∧ op ≠ 16 ∧ op ≠ 17 ∧ op ≠ 18) (c' : Int) (hc : c + costv op = c') (hf : c' ≤ 1000) {e : Int} {f2 : Fr} {g2 : GS} (he : e ≠ 0)
    (hd : doesv ⟨op, a, n⟩ ⟨0, p + 1, [], arrs, stack⟩ (arG quota c' xss pr) = (e, f2, g2)) : step [arF x y at_ v] (.run [⟨0, p, [], arrs, stack⟩] (arG quota c xss pr)) = .over g2 0 e := by
  refine step_err (i := ⟨op, a, n⟩) (f2 := f2) (ar_cur hi) hn (by show ¬ (1000 : Int) < c + costv op; omega) he ?_
  rw [show paid (arG quota c xss pr) ⟨op, a, n⟩ = arG quota c' xss pr by subst hc; rfl]
  exact hd
theorem arm_ok {q n : Int} {xss : List (List Int)} (hn : 1 ≤ n ∧ n ≤ 40) (h : n ≤ q - total xss) : makev q xss n = ((xss.length : Int), 0, xss ++ [List.replicate n.toNat 0]) := by
  unfold makev
  rw [if_neg (by omega), if_neg (by omega)]
theorem arm_no {q n : Int} {xss : List (List Int)} (hn : 1 ≤ n ∧ n ≤ 40) (h : q - total xss < n) : makev q xss n = (0, 9, xss) := by
  unfold makev
  rw [if_neg (by omega), if_pos h]
theorem total_one (x : Int) (hx : 0 ≤ x) : total [List.replicate x.toNat 0] = x := by
  unfold total
  simp
  omega
theorem total_two (x y : Int) (hx : 0 ≤ x) (hy : 0 ≤ y) (l : List Int) (hl : l.length = x.toNat) : total [l, List.replicate y.toNat 0] = x + y := by
  unfold total
  simp
  omega
theorem cell_rep {xss : List (List Int)} {id : Nat} {x at_ : Int} (hx : xss[id]? = some (List.replicate x.toNat 0)) (h0 : 0 ≤ at_) : cellv xss (id : Int) at_ = if at_ < x then some 0 else none := by
  unfold cellv
  rw [if_pos ⟨by omega, h0⟩, Int.toNat_natCast, hx]
  show (List.replicate x.toNat 0)[at_.toNat]? = _
  rw [List.getElem?_replicate]
  by_cases h : at_ < x
  · rw [if_pos h, if_pos (by omega)]
  · rw [if_neg h, if_neg (by omega)]
theorem doesv_make {i : InsR} {f : Fr} {g : GS} (ho : i.op = 22) {id e : Int} {xss' : List (List Int)} (h : makev g.q g.xss i.n = (id, e, xss')) : doesv i f g = (e, { f with arrs := f.arrs.set i.a.toNat id }, { g with xss := xss' }) := by
  unfold doesv
  rw [if_neg (by omega), if_neg (by omega), if_neg (by omega), if_neg (by omega), if_neg (by omega), if_neg (by omega), if_neg (by omega), if_pos ho, h]
theorem doesv_get {i : InsR} {f : Fr} {g : GS} (ho : i.op = 23) {n : Int} (h : cellv g.xss (f.arrs.getD i.a.toNat 0) (top f.stack) = some n) : doesv i f g = (0, { f with stack := f.stack.dropLast ++ [n] }, g) := by
  unfold doesv
  rw [if_neg (by omega), if_neg (by omega), if_neg (by omega), if_neg (by omega), if_neg (by omega), if_neg (by omega), if_neg (by omega), if_neg (by omega), if_pos ho, h]
theorem doesv_set {i : InsR} {f : Fr} {g : GS} (ho : i.op = 24) {n : Int} (h : cellv g.xss (f.arrs.getD i.a.toNat 0) (top f.stack.dropLast) = some n) : doesv i f g = (0, { f with stack := f.stack.dropLast.dropLast }, { g with xss := setv g.xss (f.arrs.getD i.a.toNat 0) (top f.stack.dropLast) (top f.stack) }) := by
  unfold doesv
  rw [if_neg (by omega), if_neg (by omega), if_neg (by omega), if_neg (by omega), if_neg (by omega), if_neg (by omega), if_neg (by omega), if_neg (by omega), if_neg (by omega), if_pos ho, h]
theorem doesv_set_no {i : InsR} {f : Fr} {g : GS} (ho : i.op = 24) (h : cellv g.xss (f.arrs.getD i.a.toNat 0) (top f.stack.dropLast) = none) : doesv i f g = (7, f, g) := by
  unfold doesv
  rw [if_neg (by omega), if_neg (by omega), if_neg (by omega), if_neg (by omega), if_neg (by omega), if_neg (by omega), if_neg (by omega), if_neg (by omega), if_neg (by omega), if_pos ho, h]

abbrev no4 (o : Int) : Prop := o ≠ 15 ∧ o ≠ 16 ∧ o ≠ 17 ∧ o ≠ 18
def arC (p : Nat) : Int := ([22, 22, 1, 1, 24, 1, 23, 19, 1, 23, 19, 22, 1, 23, 18].take p).foldl (fun c o => c + costv o) 0
/-- how it ends -/
theorem ar_ends {x y at_ v quota : Int} (hx : 1 ≤ x ∧ x ≤ 40) (hy : 1 ≤ y ∧ y ≤ 40) (ha : 0 ≤ at_ ∧ at_ ≤ 63) : ∃ k g r e, iter [arF x y at_ v] k (.run [newFr [arF x y at_ v] 0 []] (startG [] [] 1000 quota)) = .over g r e ∧
    ((quota < x ∨ quota < x + y) → e = 9 ∧ g.pr = []) ∧ (¬ quota < x → ¬ quota < x + y → x ≤ at_ → e = 7 ∧ g.pr = []) ∧ (¬ quota < x → ¬ quota < x + y → ¬ x ≤ at_ → quota < x + y + x → e = 9 ∧ g.pr = [v, 0]) ∧
    (¬ quota < x → ¬ quota < x + y → ¬ x ≤ at_ → ¬ quota < x + y + x → e = 0 ∧ g.pr = [v, 0] ∧ r = 0) := by
  rw [arG_start, show newFr [arF x y at_ v] 0 [] = ⟨0, 0, [], [-1, -1], []⟩ from rfl]
  have hq : ∀ n : Int, 1 ≤ n → n ≤ 1000 → (quota < n ↔ clampq quota < n) := fun n h0 h1 => by unfold clampq; split <;> (try split) <;> omega
  have q1 := hq x (by omega) (by omega)
  have q2 := hq (x + y) (by omega) (by omega)
  have q3 := hq (x + y + x) (by omega) (by omega)
  by_cases h1 : quota < x
  · refine ⟨1, arG quota (arC 1) [] [], 0, 9, ?_, fun _ => ⟨rfl, rfl⟩, fun h => absurd h1 h, fun h => absurd h1 h, fun h => absurd h1 h⟩
    show step [arF x y at_ v] (.run [⟨0, 0, [], [-1, -1], []⟩] (arG quota 0 [] [])) = _
    exact ar_err (op := 22) (a := 0) (n := x) rfl (by decide) (arC 1) rfl (by decide) (by decide) (doesv_make rfl (arm_no hx (by show clampq quota - 0 < x; omega)))
  have s1 : step [arF x y at_ v] (.run [⟨0, 0, [], [-1, -1], []⟩] (arG quota 0 [] [])) = .run [⟨0, 1, [], [0, -1], []⟩] (arG quota (arC 1) [List.replicate x.toNat 0] []) :=
    ar_step (op := 22) (a := 0) (n := x) rfl (by decide) (arC 1) rfl (by decide) (doesv_make rfl (arm_ok hx (by show x ≤ clampq quota - 0; omega)))
  have t1 := total_one x (by omega)
  by_cases h2 : quota < x + y
  · refine ⟨2, arG quota (arC 2) [List.replicate x.toNat 0] [], 0, 9, ?_, fun _ => ⟨rfl, rfl⟩, fun _ h => absurd h2 h, fun _ h => absurd h2 h, fun _ h => absurd h2 h⟩
    show step _ (step _ _) = _
    rw [s1]
    exact ar_err (op := 22) (a := 1) (n := y) rfl (by decide) (arC 2) rfl (by decide) (by decide) (doesv_make rfl (arm_no hy (by show clampq quota - total [List.replicate x.toNat 0] < y; omega)))
  have s2 : step [arF x y at_ v] (.run [⟨0, 1, [], [0, -1], []⟩] (arG quota (arC 1) [List.replicate x.toNat 0] [])) = .run [⟨0, 2, [], [0, 1], []⟩] (arG quota (arC 2) [List.replicate x.toNat 0, List.replicate y.toNat 0] []) :=
    ar_step (op := 22) (a := 1) (n := y) rfl (by decide) (arC 2) rfl (by decide) (doesv_make rfl (arm_ok hy (by show y ≤ clampq quota - total [List.replicate x.toNat 0]; omega)))
  have s3 : step [arF x y at_ v] (.run [⟨0, 2, [], [0, 1], []⟩] (arG quota (arC 2) [List.replicate x.toNat 0, List.replicate y.toNat 0] [])) = .run [⟨0, 3, [], [0, 1], [at_]⟩] (arG quota (arC 3) [List.replicate x.toNat 0, List.replicate y.toNat 0] []) :=
    ar_step (op := 1) (a := 0) (n := at_) rfl (by decide) (arC 3) rfl (by decide) rfl
  have s4 : step [arF x y at_ v] (.run [⟨0, 3, [], [0, 1], [at_]⟩] (arG quota (arC 3) [List.replicate x.toNat 0, List.replicate y.toNat 0] [])) = .run [⟨0, 4, [], [0, 1], [at_, v]⟩] (arG quota (arC 4) [List.replicate x.toNat 0, List.replicate y.toNat 0] []) :=
    ar_step (op := 1) (a := 0) (n := v) rfl (by decide) (arC 4) rfl (by decide) rfl
  have hc := cell_rep (xss := [List.replicate x.toNat 0, List.replicate y.toNat 0]) (id := 0) (x := x) (at_ := at_) rfl ha.1
  by_cases h3 : x ≤ at_
  · rw [if_neg (by omega)] at hc
    refine ⟨5, arG quota (arC 5) [List.replicate x.toNat 0, List.replicate y.toNat 0] [], 0, 7, ?_, fun h => by omega, fun _ _ _ => ⟨rfl, rfl⟩, fun _ _ h => absurd h3 h, fun _ _ h => absurd h3 h⟩
    show step _ (step _ (step _ (step _ (step _ _)))) = _
    rw [s1, s2, s3, s4]
    exact ar_err (op := 24) (a := 0) (n := 0) rfl (by decide) (arC 5) rfl (by decide) (by decide) (doesv_set_no rfl hc)
  rw [if_pos (by omega)] at hc
  obtain ⟨l, hl⟩ : ∃ l, l = (List.replicate x.toNat (0 : Int)).set at_.toNat v := ⟨_, rfl⟩
  have hll : l.length = x.toNat := by rw [hl]; simp
  have hset : setv [List.replicate x.toNat 0, List.replicate y.toNat 0] 0 at_ v = [l, List.replicate y.toNat 0] := by
    unfold setv
    rw [if_pos ⟨by omega, ha.1⟩, hl]
    rfl
  have s5 : step [arF x y at_ v] (.run [⟨0, 4, [], [0, 1], [at_, v]⟩] (arG quota (arC 4) [List.replicate x.toNat 0, List.replicate y.toNat 0] [])) = .run [⟨0, 5, [], [0, 1], []⟩] (arG quota (arC 5) [l, List.replicate y.toNat 0] []) := by
    rw [← hset]
    exact ar_step (op := 24) (a := 0) (n := 0) rfl (by decide) (arC 5) rfl (by decide) (doesv_set rfl hc)
  have s6 : step [arF x y at_ v] (.run [⟨0, 5, [], [0, 1], []⟩] (arG quota (arC 5) [l, List.replicate y.toNat 0] [])) = .run [⟨0, 6, [], [0, 1], [at_]⟩] (arG quota (arC 6) [l, List.replicate y.toNat 0] []) :=
    ar_step (op := 1) (a := 0) (n := at_) rfl (by decide) (arC 6) rfl (by decide) rfl
  have hg : cellv [l, List.replicate y.toNat 0] 0 at_ = some v := by
    unfold cellv
    rw [if_pos ⟨by omega, ha.1⟩, hl]
    show ((List.replicate x.toNat (0 : Int)).set at_.toNat v)[at_.toNat]? = _
    rw [List.getElem?_set_self (by simp; omega)]
  have s7 : step [arF x y at_ v] (.run [⟨0, 6, [], [0, 1], [at_]⟩] (arG quota (arC 6) [l, List.replicate y.toNat 0] [])) = .run [⟨0, 7, [], [0, 1], [v]⟩] (arG quota (arC 7) [l, List.replicate y.toNat 0] []) :=
    ar_step (op := 23) (a := 0) (n := 0) rfl (by decide) (arC 7) rfl (by decide) (doesv_get rfl hg)
  have s8 : step [arF x y at_ v] (.run [⟨0, 7, [], [0, 1], [v]⟩] (arG quota (arC 7) [l, List.replicate y.toNat 0] [])) = .run [⟨0, 8, [], [0, 1], []⟩] (arG quota (arC 8) [l, List.replicate y.toNat 0] [v]) :=
    ar_step (op := 19) (a := 0) (n := 0) rfl (by decide) (arC 8) rfl (by decide) rfl
  have s9 : step [arF x y at_ v] (.run [⟨0, 8, [], [0, 1], []⟩] (arG quota (arC 8) [l, List.replicate y.toNat 0] [v])) = .run [⟨0, 9, [], [0, 1], [0]⟩] (arG quota (arC 9) [l, List.replicate y.toNat 0] [v]) :=
    ar_step (op := 1) (a := 0) (n := 0) rfl (by decide) (arC 9) rfl (by decide) rfl
  have hg2 := cell_rep (xss := [l, List.replicate y.toNat 0]) (id := 1) (x := y) (at_ := 0) rfl (by decide)
  rw [if_pos (by omega)] at hg2
  have s10 : step [arF x y at_ v] (.run [⟨0, 9, [], [0, 1], [0]⟩] (arG quota (arC 9) [l, List.replicate y.toNat 0] [v])) = .run [⟨0, 10, [], [0, 1], [0]⟩] (arG quota (arC 10) [l, List.replicate y.toNat 0] [v]) :=
    ar_step (op := 23) (a := 1) (n := 0) rfl (by decide) (arC 10) rfl (by decide) (doesv_get rfl hg2)
  have s11 : step [arF x y at_ v] (.run [⟨0, 10, [], [0, 1], [0]⟩] (arG quota (arC 10) [l, List.replicate y.toNat 0] [v])) = .run [⟨0, 11, [], [0, 1], []⟩] (arG quota (arC 11) [l, List.replicate y.toNat 0] [v, 0]) :=
    ar_step (op := 19) (a := 0) (n := 0) rfl (by decide) (arC 11) rfl (by decide) rfl
  have t2 := total_two x y (by omega) (by omega) l hll
  by_cases h4 : quota < x + y + x
  · refine ⟨12, arG quota (arC 12) [l, List.replicate y.toNat 0] [v, 0], 0, 9, ?_, fun h => by omega, fun _ _ h => absurd h h3, fun _ _ _ _ => ⟨rfl, rfl⟩, fun _ _ _ h => absurd h4 h⟩
    show step _ (step _ (step _ (step _ (step _ (step _ (step _ (step _ (step _ (step _ (step _ (step _ _))))))))))) = _
    rw [s1, s2, s3, s4, s5, s6, s7, s8, s9, s10, s11]
    exact ar_err (op := 22) (a := 0) (n := x) rfl (by decide) (arC 12) rfl (by decide) (by decide) (doesv_make rfl (arm_no hx (by show clampq quota - total [l, List.replicate y.toNat 0] < x; omega)))
  have s12 : step [arF x y at_ v] (.run [⟨0, 11, [], [0, 1], []⟩] (arG quota (arC 11) [l, List.replicate y.toNat 0] [v, 0])) = .run [⟨0, 12, [], [2, 1], []⟩] (arG quota (arC 12) [l, List.replicate y.toNat 0, List.replicate x.toNat 0] [v, 0]) :=
    ar_step (op := 22) (a := 0) (n := x) rfl (by decide) (arC 12) rfl (by decide) (doesv_make rfl (arm_ok hx (by show x ≤ clampq quota - total [l, List.replicate y.toNat 0]; omega)))
  have s13 : step [arF x y at_ v] (.run [⟨0, 12, [], [2, 1], []⟩] (arG quota (arC 12) [l, List.replicate y.toNat 0, List.replicate x.toNat 0] [v, 0])) = .run [⟨0, 13, [], [2, 1], [at_]⟩] (arG quota (arC 13) [l, List.replicate y.toNat 0, List.replicate x.toNat 0] [v, 0]) :=
    ar_step (op := 1) (a := 0) (n := at_) rfl (by decide) (arC 13) rfl (by decide) rfl
  have hg3 := cell_rep (xss := [l, List.replicate y.toNat 0, List.replicate x.toNat 0]) (id := 2) (x := x) (at_ := at_) rfl ha.1
  rw [if_pos (by omega)] at hg3
  have s14 : step [arF x y at_ v] (.run [⟨0, 13, [], [2, 1], [at_]⟩] (arG quota (arC 13) [l, List.replicate y.toNat 0, List.replicate x.toNat 0] [v, 0])) = .run [⟨0, 14, [], [2, 1], [0]⟩] (arG quota (arC 14) [l, List.replicate y.toNat 0, List.replicate x.toNat 0] [v, 0]) :=
    ar_step (op := 23) (a := 0) (n := 0) rfl (by decide) (arC 14) rfl (by decide) (doesv_get rfl hg3)
  refine ⟨15, arG quota (arC 15) [l, List.replicate y.toNat 0, List.replicate x.toNat 0] [v, 0], 0, 0, ?_, fun h => by omega, fun _ _ h => absurd h h3, fun _ _ _ h => absurd h h4, fun _ _ _ _ => ⟨rfl, rfl, rfl⟩⟩
  show step _ (step _ (step _ (step _ (step _ (step _ (step _ (step _ (step _ (step _ (step _ (step _ (step _ (step _ (step _ _)))))))))))))) = _
  rw [s1, s2, s3, s4, s5, s6, s7, s8, s9, s10, s11, s12, s13, s14]
  exact step_stop (i := ⟨18, 0, 0⟩) rfl rfl (show ¬ (1000 : Int) < arC 15 by decide)
theorem runO_arrays {x y at_ v quota : Int} (hx : 1 ≤ x ∧ x ≤ 40) (hy : 1 ≤ y ∧ y ≤ 40) (ha : 0 ≤ at_ ∧ at_ ≤ 63) {o : OutR} (h : RunO [arF x y at_ v] [] [] 1000 quota o) :
    ((quota < x ∨ quota < x + y) → o.err = 9 ∧ o.pr = []) ∧ (¬ quota < x → ¬ quota < x + y → x ≤ at_ → o.err = 7 ∧ o.pr = []) ∧ (¬ quota < x → ¬ quota < x + y → ¬ x ≤ at_ → quota < x + y + x → o.err = 9 ∧ o.pr = [v, 0]) ∧
    (¬ quota < x → ¬ quota < x + y → ¬ x ≤ at_ → ¬ quota < x + y + x → o.err = 0 ∧ o.pr = [v, 0] ∧ o.res = 0) := by
  obtain ⟨k, g, r, e, hk, h1, h2, h3, h4⟩ := ar_ends (v := v) (quota := quota) hx hy ha
  rw [h.is (arF_ok at_ v hx hy) hk]
  exact ⟨h1, h2, h3, h4⟩
end Go.Proofs.YtdpimkbdieafgaaDoor
