/- What a rule of fold leaves runs as it did: the place of the rule; all of it. -/
import Derived.Test.YtahmnmpfjgddpaaGreatDoorRunB
namespace Go.Proofs.YtahmnmpfjgddpaaGreatDoor
set_option linter.unusedVariables false
set_option linter.unusedSimpArgs false
open Go.RowKit

theorem iter_c0 (fs : List FnR) (c : Conf) : iter fs 0 c = c := rfl
theorem iter_c1 (fs : List FnR) (c : Conf) : iter fs 1 c = step fs c := rfl
theorem iter_c2 (fs : List FnR) (c : Conf) : iter fs 2 c = step fs (step fs c) := rfl
theorem iter_c3 (fs : List FnR) (c : Conf) : iter fs 3 c = step fs (step fs (step fs c)) := rfl
theorem push_op (n : Int) : (pushR n).op ≠ 18 ∧ (pushR n).op ≠ 15 ∧ (pushR n).op ≠ 16 := ⟨by show (1 : Int) ≠ 18; decide, by show (1 : Int) ≠ 15; decide, by show (1 : Int) ≠ 16; decide⟩
/-! ### single steps -/
section
variable {fs : List FnR} {f : Fr} {rest : List Fr} {g : GS} {i : InsR}
theorem rs_out (hi : curI fs f = i) (hf : g.fuel < g.now + costv i.op) : step fs (.run (f :: rest) g) = .over (paid g i) 0 8 := by
  rw [step_eq, hi, if_pos (show (paid g i).fuel < (paid g i).now from hf)]
theorem rs_does (hi : curI fs f = i) (hn : i.op ≠ 15 ∧ i.op ≠ 16 ∧ i.op ≠ 17 ∧ i.op ≠ 18) (hf : ¬ g.fuel < g.now + costv i.op) {f2 : Fr} {g2 : GS} (hd : doesv i { f with at_ := f.at_ + 1 } (paid g i) = (0, f2, g2)) : step fs (.run (f :: rest) g) = .run (f2 :: rest) g2 := by
  rw [step_eq, hi, if_neg (show ¬ (paid g i).fuel < (paid g i).now from hf), if_neg (by omega), if_neg (by omega), if_neg (by omega), if_neg (by omega), hd]
  rfl
theorem rs_push (hi : curI fs f = i) (ho : i.op = 1) (hf : ¬ g.fuel < g.now + costv i.op) : step fs (.run (f :: rest) g) = .run ({ f with at_ := f.at_ + 1, stack := f.stack ++ [i.n] } :: rest) (paid g i) :=
  rs_does hi (by omega) hf (by unfold doesv; rw [if_pos ho])
theorem rs_jump (hi : curI fs f = i) (ho : i.op = 15) (hf : ¬ g.fuel < g.now + costv i.op) : step fs (.run (f :: rest) g) = .run ({ f with at_ := i.a.toNat } :: rest) (paid g i) := by
  rw [step_eq, hi, if_neg (show ¬ (paid g i).fuel < (paid g i).now from hf), if_neg (by omega), if_neg (by omega), if_pos ho]
theorem rs_zero (hi : curI fs f = i) (ho : i.op = 16) (hf : ¬ g.fuel < g.now + costv i.op) : step fs (.run (f :: rest) g) = .run ({ f with at_ := if top f.stack = 0 then i.a.toNat else f.at_ + 1, stack := f.stack.dropLast } :: rest) (paid g i) := by
  rw [step_eq, hi, if_neg (show ¬ (paid g i).fuel < (paid g i).now from hf), if_neg (by omega), if_pos ho]
  split <;> rfl
theorem takes_one {op : Int} (h : op = 4 ∨ op = 5) : takesv op = 1 := by rcases h with rfl | rfl <;> rfl
theorem rtakes_two {op : Int} (h : 6 ≤ op ∧ op ≤ 14) : takesv op = 2 := by
  have : op = 6 ∨ op = 7 ∨ op = 8 ∨ op = 9 ∨ op = 10 ∨ op = 11 ∨ op = 12 ∨ op = 13 ∨ op = 14 := by omega
  rcases this with rfl | rfl | rfl | rfl | rfl | rfl | rfl | rfl | rfl <;> rfl
theorem leaves_ops {op : Int} (h : 4 ≤ op ∧ op ≤ 14) : leavesv op = 1 := by
  have : op = 4 ∨ op = 5 ∨ op = 6 ∨ op = 7 ∨ op = 8 ∨ op = 9 ∨ op = 10 ∨ op = 11 ∨ op = 12 ∨ op = 13 ∨ op = 14 := by omega
  rcases this with rfl | rfl | rfl | rfl | rfl | rfl | rfl | rfl | rfl | rfl | rfl <;> rfl
theorem doV_one {op : Int} (h : op = 4 ∨ op = 5) (x : Int) : (doV (op + 2) x 0).2 = true := by rcases h with rfl | rfl <;> rfl
theorem rs_one (hi : curI fs f = i) (ho : i.op = 4 ∨ i.op = 5) (hf : ¬ g.fuel < g.now + costv i.op) {s : List Int} {x : Int} (hs : f.stack = s ++ [x]) : step fs (.run (f :: rest) g) = .run ({ f with at_ := f.at_ + 1, stack := s ++ [(doV (i.op + 2) x 0).1] } :: rest) (paid g i) := by
  refine rs_does hi (by omega) hf ?_
  unfold doesv
  rw [if_neg (by omega), if_neg (by omega), if_neg (by omega), if_neg (by omega), if_neg (by omega), if_neg (by omega), if_neg (by omega), if_neg (by omega), if_neg (by omega), if_neg (by omega), if_neg (by rw [takes_one ho]; decide)]
  simp only [hs, top_snoc, List.dropLast_concat]
  rw [if_pos (doV_one ho x)]
theorem rs_two (hi : curI fs f = i) (ho : 6 ≤ i.op ∧ i.op ≤ 14) (hf : ¬ g.fuel < g.now + costv i.op) {s : List Int} {x y : Int} (hs : f.stack = s ++ [x] ++ [y]) (hd : (doV (i.op + 2) x y).2 = true) : step fs (.run (f :: rest) g) = .run ({ f with at_ := f.at_ + 1, stack := s ++ [(doV (i.op + 2) x y).1] } :: rest) (paid g i) := by
  refine rs_does hi (by omega) hf ?_
  unfold doesv
  rw [if_neg (by omega), if_neg (by omega), if_neg (by omega), if_neg (by omega), if_neg (by omega), if_neg (by omega), if_neg (by omega), if_neg (by omega), if_neg (by omega), if_neg (by omega), if_pos (rtakes_two ho)]
  simp only [hs, top_snoc, List.dropLast_concat]
  rw [if_pos hd]
end
theorem cost_all' (op : Int) : 0 ≤ costv op ∧ costv op ≤ 20 := by
  unfold costv sortAt
  by_cases h : op.toNat < 26
  · have key : ∀ i, i < 26 → -1 ≤ (sorts.getD i ⟨ByteArray.empty, 0, 0, 0, 0⟩).more ∧ (sorts.getD i ⟨ByteArray.empty, 0, 0, 0, 0⟩).more ≤ 19 := by decide
    have := key _ h
    omega
  · rw [List.getD_eq_getElem?_getD, List.getElem?_eq_none (by have : sorts.length = 26 := rfl; omega)]
    show 0 ≤ (1 : Int) + 0 ∧ (1 : Int) + 0 ≤ 20
    omega
section
variable {fs : List FnR} {k0 at_ many : Nat} {bs : List InsR}
/-- the instruction put there, as it stands there -/
theorem cur_mid (hk : k0 < fs.length) (hl : at_ + many ≤ (fs.getD k0 noFn).l.length) {f : Fr} (hf : f.fn = k0) (ha : f.at_ = at_) (hb : 0 < bs.length) :
    curI (setL fs k0 (replv (fs.getD k0 noFn).l at_ many bs)) f = fixA at_ many bs.length (bs.getD 0 noIns) := by
  unfold curI
  rw [setL_get fs k0 _ hk, if_pos hf]
  simp only
  rw [ha]
  have := replv_mid (bs := bs) hl hb
  rwa [Nat.add_zero] at this
/-- at the place of the rule -/
theorem step_block (hk : k0 < fs.length) (hl : at_ + many ≤ (fs.getD k0 noFn).l.length) (hB : Blk (fs.getD k0 noFn).l at_ many bs) (hfree : Free (fs.getD k0 noFn).l at_ many) {f : Fr} {rest : List Fr} {g : GS} {n' : Int}
    (ho : ∀ x ∈ f :: rest, OutF k0 at_ many x) (hf : f.fn = k0) (ha : f.at_ = at_) (hnow : n' ≤ g.now) :
    ∃ j m', 1 ≤ j ∧ ((∃ g8, iter fs j (.run (f :: rest) g) = .over g8 0 8) ∨
      SimC k0 at_ many bs.length (iter fs j (.run (f :: rest) g)) (iter (setL fs k0 (replv (fs.getD k0 noFn).l at_ many bs)) m' (.run ((f :: rest).map (mvF k0 at_ many bs.length)) { g with now := n' }))) := by
  have hor : ∀ x ∈ rest, OutF k0 at_ many x := fun x hx => ho x (List.mem_cons_of_mem _ hx)
  have hcur : ∀ (p : Nat) vs ar st, curI fs ⟨f.fn, p, vs, ar, st⟩ = (fs.getD k0 noFn).l.getD p noIns := fun p vs ar st => by unfold curI; rw [hf]
  have hmf : mvF k0 at_ many bs.length f = f := by
    unfold mvF phi
    rw [if_pos hf, ha, if_pos (Nat.le_refl _)]
    obtain ⟨fn, at2, vs, ar, st⟩ := f
    simp only at ha
    rw [ha]
  have hcurf : curI fs f = (fs.getD k0 noFn).l.getD at_ noIns := by
    have := hcur f.at_ f.vars f.arrs f.stack
    rw [ha] at this
    obtain ⟨fn, at2, vs, ar, st⟩ := f
    simp only at ha this
    rw [ha]
    exact this
  rw [List.map_cons, hmf]
  have fuel8 : ∀ (g1 : GS) (f1 : Fr) (i : InsR), curI fs f1 = i → g1.fuel < g1.now + costv i.op → ∃ g8, step fs (.run (f1 :: rest) g1) = .over g8 0 8 := fun g1 f1 i h1 h2 => ⟨_, rs_out h1 h2⟩
  -- the ends
  have done0 : ∀ (p : Nat) (st : List Int) (g1 : GS), bs.length = 0 → p = at_ + many → at_ < p → g1 = { g with now := g1.now } → n' ≤ g1.now → st = f.stack →
      SimC k0 at_ many bs.length (.run (⟨f.fn, p, f.vars, f.arrs, st⟩ :: rest) g1) (.run (f :: rest.map (mvF k0 at_ many bs.length)) { g with now := n' }) := fun p st g1 hb hp hlt hg hn hst => by
    refine ⟨fun x hx => ?_, n', hn, ?_⟩
    · rcases List.mem_cons.1 hx with rfl | hx
      · exact fun _ => .inr (by show at_ + many ≤ p; omega)
      · exact hor x hx
    · rw [List.map_cons, hg]
      congr 2
      unfold mvF phi
      rw [if_pos hf]
      simp only
      rw [if_neg (by omega), hb, hst, show p - many + 0 = f.at_ by omega]
  have done1 : ∀ (p q : Nat) (st : List Int) (g1 : GS) (n1 : Int), q = phi at_ many bs.length p → OutP at_ many p → g1 = { g with now := g1.now } → n1 ≤ g1.now →
      SimC k0 at_ many bs.length (.run (⟨f.fn, p, f.vars, f.arrs, st⟩ :: rest) g1) (.run (⟨f.fn, q, f.vars, f.arrs, st⟩ :: rest.map (mvF k0 at_ many bs.length)) { g with now := n1 }) := fun p q st g1 n1 hq hp hg hn => by
    refine ⟨fun x hx => ?_, n1, hn, ?_⟩
    · rcases List.mem_cons.1 hx with rfl | hx
      · exact fun _ => hp
      · exact hor x hx
    · rw [List.map_cons, hg]
      congr 2
      unfold mvF
      rw [if_pos hf]
      simp only
      rw [hq]
  cases hB with
  | hop x h0 h1 h2 =>
    have hc : curI fs f = x := by rw [hcurf, h0]
    refine ⟨1, 0, by omega, ?_⟩
    rw [iter_c1, iter_c0]
    by_cases hfu : g.fuel < g.now + costv x.op
    · exact .inl (fuel8 g f x hc hfu)
    · refine .inr ?_
      rw [rs_jump hc h1 hfu]
      have hcost := cost_all' x.op
      refine done0 _ _ (paid g x) rfl (by rw [h2]; omega) (by rw [h2]; omega) rfl (by show n' ≤ g.now + costv x.op; omega) rfl
  | one x y h0 hx h1 hy =>
    have hc : curI fs f = x := by rw [hcurf, h0]
    have hcost := cost_all' x.op
    have hcosty := cost_all' y.op
    refine ⟨2, 1, by omega, ?_⟩
    rw [iter_c2, iter_c1]
    by_cases hfu : g.fuel < g.now + costv x.op
    · obtain ⟨g8, h8⟩ := fuel8 g f x hc hfu
      exact .inl ⟨g8, by rw [h8]; rfl⟩
    · rw [rs_push hc hx hfu]
      have hc2 : curI fs ⟨f.fn, f.at_ + 1, f.vars, f.arrs, f.stack ++ [x.n]⟩ = y := by rw [hcur, ha, h1]
      by_cases hfu2 : (paid g x).fuel < (paid g x).now + costv y.op
      · exact .inl (fuel8 _ _ y hc2 hfu2)
      · refine .inr ?_
        rw [rs_one (s := f.stack) (x := x.n) hc2 hy hfu2 rfl]
        have hcn := cur_mid (bs := [pushR (doV (y.op + 2) x.n 0).1]) hk hl hf ha (by simp)
        have e1 : fixA at_ 2 ([pushR (doV (y.op + 2) x.n 0).1] : List InsR).length (([pushR (doV (y.op + 2) x.n 0).1] : List InsR).getD 0 noIns) = pushR (doV (y.op + 2) x.n 0).1 := fixA_not rfl
        have hcn : curI (setL fs k0 (replv (fs.getD k0 noFn).l at_ 2 [pushR (doV (y.op + 2) x.n 0).1])) f = pushR (doV (y.op + 2) x.n 0).1 := hcn.trans e1
        have hcx : costv x.op = 1 := by rw [hx]; rfl
        rw [rs_push hcn rfl (by
          show ¬ g.fuel < n' + costv 1
          have : costv 1 = 1 := rfl
          omega)]
        refine done1 (f.at_ + 1 + 1) (f.at_ + 1) _ _ _ ?_ ?_ rfl ?_
        · unfold phi; rw [if_neg (by omega)]; show f.at_ + 1 = f.at_ + 1 + 1 - 2 + 1; omega
        · exact .inr (by omega)
        · show n' + costv 1 ≤ g.now + costv x.op + costv y.op
          have : costv 1 = 1 := rfl
          omega
  | goes x y h0 hx h1 hy hn =>
    have hc : curI fs f = x := by rw [hcurf, h0]
    have hcost := cost_all' x.op
    have hcosty := cost_all' y.op
    refine ⟨2, 1, by omega, ?_⟩
    rw [iter_c2, iter_c1]
    by_cases hfu : g.fuel < g.now + costv x.op
    · obtain ⟨g8, h8⟩ := fuel8 g f x hc hfu
      exact .inl ⟨g8, by rw [h8]; rfl⟩
    · rw [rs_push hc hx hfu]
      have hc2 : curI fs ⟨f.fn, f.at_ + 1, f.vars, f.arrs, f.stack ++ [x.n]⟩ = y := by rw [hcur, ha, h1]
      by_cases hfu2 : (paid g x).fuel < (paid g x).now + costv y.op
      · exact .inl (fuel8 _ _ y hc2 hfu2)
      · refine .inr ?_
        rw [rs_zero hc2 hy hfu2]
        have hcn := cur_mid (bs := [(⟨15, y.a, 0⟩ : InsR)]) hk hl hf ha (by simp)
        have e1 : fixA at_ 2 ([(⟨15, y.a, 0⟩ : InsR)] : List InsR).length (([(⟨15, y.a, 0⟩ : InsR)] : List InsR).getD 0 noIns) = ⟨15, fixT at_ 2 1 y.a, 0⟩ := fixA_jump (at_ := at_) (many := 2) (m := 1) rfl
        have hcn : curI (setL fs k0 (replv (fs.getD k0 noFn).l at_ 2 [(⟨15, y.a, 0⟩ : InsR)])) f = ⟨15, fixT at_ 2 1 y.a, 0⟩ := hcn.trans e1
        have hcx : costv x.op = 1 := by rw [hx]; rfl
        have hcj : costv 15 = 1 := rfl
        rw [rs_jump hcn rfl (by
          show ¬ g.fuel < n' + costv 15
          omega)]
        have hym : y ∈ (fs.getD k0 noFn).l := by
          rw [← h1, List.getD_eq_getElem?_getD (i := at_ + 1), List.getElem?_eq_getElem (by omega)]
          exact List.getElem_mem _
        have hyj : jumpsv y = true := by unfold jumpsv; rw [decide_eq_true (.inr hy)]
        obtain ⟨p1, p2⟩ := fixT_phi (at_ := at_) (many := 2) (m := 1) (by omega) (fun j hj1 hj2 => hfree j hj1 hj2 y hym hyj)
        simp only [top_snoc, List.dropLast_concat, if_pos hn]
        exact done1 _ _ _ _ _ p1 p2 rfl (by show n' + costv 15 ≤ g.now + costv x.op + costv y.op; omega)
  | stays x y h0 hx h1 hy hn =>
    have hc : curI fs f = x := by rw [hcurf, h0]
    have hcost := cost_all' x.op
    have hcosty := cost_all' y.op
    refine ⟨2, 0, by omega, ?_⟩
    rw [iter_c2, iter_c0]
    by_cases hfu : g.fuel < g.now + costv x.op
    · obtain ⟨g8, h8⟩ := fuel8 g f x hc hfu
      exact .inl ⟨g8, by rw [h8]; rfl⟩
    · rw [rs_push hc hx hfu]
      have hc2 : curI fs ⟨f.fn, f.at_ + 1, f.vars, f.arrs, f.stack ++ [x.n]⟩ = y := by rw [hcur, ha, h1]
      by_cases hfu2 : (paid g x).fuel < (paid g x).now + costv y.op
      · exact .inl (fuel8 _ _ y hc2 hfu2)
      · refine .inr ?_
        rw [rs_zero hc2 hy hfu2]
        simp only [top_snoc, List.dropLast_concat, if_neg hn]
        exact done0 _ _ (paid (paid g x) y) rfl (by omega) (by omega) rfl (by show n' ≤ g.now + costv x.op + costv y.op; omega) rfl
  | two x y z h0 hx h1 hy h2 hz ho2 =>
    have hc : curI fs f = x := by rw [hcurf, h0]
    have hcost := cost_all' x.op
    have hcosty := cost_all' y.op
    have hcostz := cost_all' z.op
    refine ⟨3, 1, by omega, ?_⟩
    rw [iter_c3, iter_c1]
    by_cases hfu : g.fuel < g.now + costv x.op
    · obtain ⟨g8, h8⟩ := fuel8 g f x hc hfu
      exact .inl ⟨g8, by rw [h8]; rfl⟩
    · rw [rs_push hc hx hfu]
      have hc2 : curI fs ⟨f.fn, f.at_ + 1, f.vars, f.arrs, f.stack ++ [x.n]⟩ = y := by rw [hcur, ha, h1]
      by_cases hfu2 : (paid g x).fuel < (paid g x).now + costv y.op
      · obtain ⟨g8, h8⟩ := fuel8 (paid g x) ⟨f.fn, f.at_ + 1, f.vars, f.arrs, f.stack ++ [x.n]⟩ y hc2 hfu2
        exact .inl ⟨g8, by
          have h8 : step fs (Conf.run ({ f with at_ := f.at_ + 1, stack := f.stack ++ [x.n] } :: rest) (paid g x)) = Conf.over g8 0 8 := h8
          rw [h8]; rfl⟩
      · rw [rs_push hc2 hy hfu2]
        have hc3 : curI fs ⟨f.fn, f.at_ + 1 + 1, f.vars, f.arrs, f.stack ++ [x.n] ++ [y.n]⟩ = z := by rw [hcur, ha, show at_ + 1 + 1 = at_ + 2 by omega, h2]
        by_cases hfu3 : (paid (paid g x) y).fuel < (paid (paid g x) y).now + costv z.op
        · exact .inl (fuel8 _ _ z hc3 hfu3)
        · refine .inr ?_
          rw [rs_two (s := f.stack) (x := x.n) (y := y.n) hc3 hz hfu3 rfl ho2]
          have hcn := cur_mid (bs := [pushR (doV (z.op + 2) x.n y.n).1]) hk hl hf ha (by simp)
          have e1 : fixA at_ 3 ([pushR (doV (z.op + 2) x.n y.n).1] : List InsR).length (([pushR (doV (z.op + 2) x.n y.n).1] : List InsR).getD 0 noIns) = pushR (doV (z.op + 2) x.n y.n).1 := fixA_not rfl
          have hcn : curI (setL fs k0 (replv (fs.getD k0 noFn).l at_ 3 [pushR (doV (z.op + 2) x.n y.n).1])) f = pushR (doV (z.op + 2) x.n y.n).1 := hcn.trans e1
          have hcx : costv x.op = 1 := by rw [hx]; rfl
          have hc1 : costv 1 = 1 := rfl
          rw [rs_push hcn rfl (by
            show ¬ g.fuel < n' + costv 1
            omega)]
          refine done1 (f.at_ + 1 + 1 + 1) (f.at_ + 1) _ _ _ ?_ ?_ rfl ?_
          · unfold phi; rw [if_neg (by omega)]; show f.at_ + 1 = f.at_ + 1 + 1 + 1 - 3 + 1; omega
          · exact .inr (by omega)
          · show n' + costv 1 ≤ g.now + costv x.op + costv y.op + costv z.op
            omega

/-- no clock -/
def NoClock (fs : List FnR) : Prop := ∀ f ∈ fs, ∀ x ∈ f.l, x.op ≠ 25
theorem cur_no25 (h : NoClock fs) (f : Fr) : (curI fs f).op ≠ 25 := by
  unfold curI
  rw [List.getD_eq_getElem?_getD, List.getD_eq_getElem?_getD]
  rcases hq : fs[f.fn]? with _ | F
  · simp [noFn, noIns]
  · simp only [Option.getD_some]
    rcases hr : F.l[f.at_]? with _ | x
    · simp [noIns]
    · exact h F (List.mem_of_getElem? hq) x (List.mem_of_getElem? hr)
/-- one rule: all ends as it did -/
theorem rule_run (hk : k0 < fs.length) (hl : at_ + many ≤ (fs.getD k0 noFn).l.length) (hB : Blk (fs.getD k0 noFn).l at_ many bs) (hfree : Free (fs.getD k0 noFn).l at_ many) (h25 : NoClock fs) :
    ∀ (k : Nat) (c c' : Conf) (g : GS) (r e : Int), SimC k0 at_ many bs.length c c' → iter fs k c = .over g r e → e ≠ 8 → ∃ k' n', n' ≤ g.now ∧ iter (setL fs k0 (replv (fs.getD k0 noFn).l at_ many bs)) k' c' = .over { g with now := n' } r e := by
  intro k
  induction k using Nat.strongRecOn with
  | _ k ih =>
    intro c c' g r e hs hk2 he
    cases c with
    | over g0 r0 e0 =>
      rw [iter_over] at hk2
      injection hk2 with e1 e2 e3
      subst e1 e2 e3
      obtain ⟨n', h1, h2⟩ := hs
      exact ⟨0, n', h1, h2⟩
    | run frs g0 =>
      cases k with
      | zero => cases hk2
      | succ k =>
        obtain ⟨ho, n', hn, rfl⟩ := hs
        cases frs with
        | nil =>
          have hk2 : iter fs k (.over g0 0 0) = .over g r e := hk2
          rw [iter_over] at hk2
          injection hk2 with e1 e2 e3
          subst e1 e2 e3
          exact ⟨1, n', hn, rfl⟩
        | cons f rest =>
          have fin : ∀ (j m' : Nat), 1 ≤ j → ((∃ g8, iter fs j (.run (f :: rest) g0) = .over g8 0 8) ∨ SimC k0 at_ many bs.length (iter fs j (.run (f :: rest) g0)) (iter (setL fs k0 (replv (fs.getD k0 noFn).l at_ many bs)) m' (.run ((f :: rest).map (mvF k0 at_ many bs.length)) { g0 with now := n' }))) →
              ∃ k' n1, n1 ≤ g.now ∧ iter (setL fs k0 (replv (fs.getD k0 noFn).l at_ many bs)) k' (.run ((f :: rest).map (mvF k0 at_ many bs.length)) { g0 with now := n' }) = .over { g with now := n1 } r e := fun j m' hj hcs => by
            rcases hcs with ⟨g8, h8⟩ | hs2
            · obtain ⟨_, _, h3⟩ := over_unique hk2 h8
              exact absurd h3 he
            · cases hj2 : iter fs j (.run (f :: rest) g0) with
              | over g1 r1 e1 =>
                rw [hj2] at hs2
                obtain ⟨rfl, rfl, rfl⟩ := over_unique hk2 hj2
                obtain ⟨n1, h1, h2⟩ := hs2
                exact ⟨m', n1, h1, h2⟩
              | run frs1 g1 =>
                have hjk : j ≤ k + 1 := by
                  by_cases h : j ≤ k + 1
                  · exact h
                  · have : iter fs (k + 1 + (j - (k + 1))) (.run (f :: rest) g0) = .over g r e := by rw [iter_add, hk2, iter_over]
                    rw [show k + 1 + (j - (k + 1)) = j by omega, hj2] at this
                    cases this
                have hk3 : iter fs (k + 1 - j) (.run frs1 g1) = .over g r e := by
                  rw [← hj2, ← iter_add, show j + (k + 1 - j) = k + 1 by omega]
                  exact hk2
                rw [hj2] at hs2
                obtain ⟨k', n1, h1, h2⟩ := ih (k + 1 - j) (by omega) _ _ g r e hs2 hk3 he
                exact ⟨m' + k', n1, h1, by rw [iter_add]; exact h2⟩
          by_cases hb : f.fn = k0 ∧ f.at_ = at_
          · obtain ⟨j, m', hj, hcs⟩ := step_block (g := g0) hk hl hB hfree ho hb.1 hb.2 hn
            exact fin j m' hj hcs
          · by_cases hfu : g0.fuel < g0.now + costv (curI fs f).op
            · exact fin 1 0 (by omega) (.inl ⟨_, rs_out rfl hfu⟩)
            · exact fin 1 1 (by omega) (.inr (step_other hk hl hB.many.1 hfree ho (fun h1 h2 => hb ⟨h1, h2⟩) (cur_no25 h25 f) hn hfu))
end
end Go.Proofs.YtahmnmpfjgddpaaGreatDoor
