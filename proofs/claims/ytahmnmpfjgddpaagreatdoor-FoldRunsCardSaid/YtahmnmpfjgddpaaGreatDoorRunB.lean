/- What a rule of fold leaves runs as it did: the steps. -/
import Derived.Test.YtahmnmpfjgddpaaGreatDoorRunA
namespace Go.Proofs.YtahmnmpfjgddpaaGreatDoor
set_option linter.unusedVariables false
set_option linter.unusedSimpArgs false
open Go.RowKit

/-- code with other instructions in a function -/
def setL (fs : List FnR) (k0 : Nat) (l' : List InsR) : List FnR := fs.set k0 { (fs.getD k0 noFn) with l := l' }
theorem setL_get (fs : List FnR) (k0 : Nat) (l' : List InsR) (h : k0 < fs.length) (j : Nat) : (setL fs k0 l').getD j noFn = if j = k0 then { (fs.getD k0 noFn) with l := l' } else fs.getD j noFn := by
  unfold setL
  by_cases e : j = k0
  · subst e
    rw [if_pos rfl, List.getD_eq_getElem?_getD, List.getElem?_set_self h]
    rfl
  · rw [if_neg e, List.getD_eq_getElem?_getD, List.getElem?_set_ne (fun x => e x.symm), ← List.getD_eq_getElem?_getD]
theorem setL_len (fs : List FnR) (k0 : Nat) (l' : List InsR) : (setL fs k0 l').length = fs.length := by unfold setL; rw [List.length_set]
theorem setL_hd (fs : List FnR) (k0 : Nat) (l' : List InsR) (h : k0 < fs.length) (j : Nat) : ((setL fs k0 l').getD j noFn).ps = (fs.getD j noFn).ps ∧ ((setL fs k0 l').getD j noFn).vs = (fs.getD j noFn).vs ∧ ((setL fs k0 l').getD j noFn).ar = (fs.getD j noFn).ar := by
  rw [setL_get fs k0 l' h]
  split
  · rename_i e; subst e; exact ⟨rfl, rfl, rfl⟩
  · exact ⟨rfl, rfl, rfl⟩
theorem newFr_set {fs : List FnR} {k0 : Nat} {l' : List InsR} (h : k0 < fs.length) (fn : Nat) (args : List Int) : newFr (setL fs k0 l') fn args = newFr fs fn args := by
  unfold newFr
  rw [(setL_hd fs k0 l' h fn).2.1, (setL_hd fs k0 l' h fn).2.2]
theorem parsOf_set {fs : List FnR} {k0 : Nat} {l' : List InsR} (h : k0 < fs.length) (a : Int) : parsOf (setL fs k0 l') a = parsOf fs a := by
  unfold parsOf
  rw [(setL_hd fs k0 l' h _).1]

/-! ### an instruction does the same wherever it stands, at whatever time -/
def RelP (p : Nat) (n' : Int) (a b : Int × Fr × GS) : Prop := a = (b.1, { b.2.1 with at_ := p }, { b.2.2 with now := n' })
theorem relp_ite {p : Nat} {n' : Int} {c : Prop} [Decidable c] {a b a' b' : Int × Fr × GS} (h1 : c → RelP p n' a b) (h2 : ¬ c → RelP p n' a' b') : RelP p n' (if c then a else a') (if c then b else b') := by
  split
  · exact h1 ‹_›
  · exact h2 ‹_›
theorem relp_opt {p : Nat} {n' : Int} {o : Option Int} {a b : Int → Int × Fr × GS} {a' b' : Int × Fr × GS} (h1 : ∀ n, RelP p n' (a n) (b n)) (h2 : RelP p n' a' b') : RelP p n' (match o with | some n => a n | none => a') (match o with | some n => b n | none => b') := by cases o with | none => exact h2 | some n => exact h1 n
theorem doesv_mv (i : InsR) (h25 : i.op ≠ 25) (f : Fr) (g : GS) (p : Nat) (n' : Int) : doesv i { f with at_ := p } { g with now := n' } = ((doesv i f g).1, { (doesv i f g).2.1 with at_ := p }, { (doesv i f g).2.2 with now := n' }) := by
  show RelP p n' (doesv i { f with at_ := p } { g with now := n' }) (doesv i f g)
  unfold doesv
  repeat' first
    | refine relp_ite (fun _ => ?_) (fun _ => ?_)
    | refine relp_opt (fun n => ?_) ?_
  all_goals first | rfl | exact absurd ‹i.op = 25› h25
def RelK (f : Fr) (g : GS) (b : Int × Fr × GS) : Prop := b.2.1.fn = f.fn ∧ b.2.1.at_ = f.at_ ∧ b.2.2.now = g.now ∧ b.2.2.fuel = g.fuel
theorem relk_ite {f : Fr} {g : GS} {c : Prop} [Decidable c] {a b : Int × Fr × GS} (h1 : RelK f g a) (h2 : RelK f g b) : RelK f g (if c then a else b) := by split <;> assumption
theorem relk_opt {f : Fr} {g : GS} {o : Option Int} {a : Int → Int × Fr × GS} {b : Int × Fr × GS} (h1 : ∀ n, RelK f g (a n)) (h2 : RelK f g b) : RelK f g (match o with | some n => a n | none => b) := by cases o with | none => exact h2 | some n => exact h1 n
theorem doesv_keep (i : InsR) (f : Fr) (g : GS) : RelK f g (doesv i f g) := by
  unfold doesv
  repeat' first
    | refine relk_ite ?_ ?_
    | refine relk_opt (fun n => ?_) ?_
  all_goals exact ⟨rfl, rfl, rfl, rfl⟩

/-! ### frames and machines -/
def mvF (k0 at_ many m : Nat) (f : Fr) : Fr := if f.fn = k0 then { f with at_ := phi at_ many m f.at_ } else f
def OutF (k0 at_ many : Nat) (f : Fr) : Prop := f.fn = k0 → OutP at_ many f.at_
def SimC (k0 at_ many m : Nat) : Conf → Conf → Prop
  | .run frs g, c' => (∀ f ∈ frs, OutF k0 at_ many f) ∧ ∃ n', n' ≤ g.now ∧ c' = .run (frs.map (mvF k0 at_ many m)) { g with now := n' }
  | .over g r e, c' => ∃ n', n' ≤ g.now ∧ c' = .over { g with now := n' } r e
section
variable {fs : List FnR} {k0 at_ many : Nat} {bs : List InsR}
theorem mvF_eq (m : Nat) (f : Fr) : mvF k0 at_ many m f = { f with at_ := (mvF k0 at_ many m f).at_ } := by
  unfold mvF
  split <;> rfl
theorem mvF_fields (m : Nat) (f : Fr) : (mvF k0 at_ many m f).fn = f.fn ∧ (mvF k0 at_ many m f).vars = f.vars ∧ (mvF k0 at_ many m f).arrs = f.arrs ∧ (mvF k0 at_ many m f).stack = f.stack := by
  unfold mvF
  split <;> exact ⟨rfl, rfl, rfl, rfl⟩
/-- the instruction that a frame is at, there -/
theorem cur_set (hk : k0 < fs.length) (hl : at_ + many ≤ (fs.getD k0 noFn).l.length) (h1 : 1 ≤ many) {f : Fr} (ho : OutF k0 at_ many f) (hn : f.fn = k0 → f.at_ ≠ at_) :
    curI (setL fs k0 (replv (fs.getD k0 noFn).l at_ many bs)) (mvF k0 at_ many bs.length f) = if f.fn = k0 then fixA at_ many bs.length (curI fs f) else curI fs f := by
  unfold curI
  rw [setL_get fs k0 _ hk, (mvF_fields bs.length f).1]
  by_cases e : f.fn = k0
  · rw [if_pos e, if_pos e]
    have hat : (mvF k0 at_ many bs.length f).at_ = phi at_ many bs.length f.at_ := by unfold mvF; rw [if_pos e]
    rw [hat]
    simp only
    rw [e]
    rcases ho e with h | h
    · have : f.at_ < at_ := by have := hn e; omega
      unfold phi
      rw [if_pos h]
      exact replv_low hl this
    · unfold phi
      rw [if_neg (by omega)]
      exact replv_high hl h
  · rw [if_neg e, if_neg e]
    have hat : mvF k0 at_ many bs.length f = f := by unfold mvF; rw [if_neg e]
    rw [hat]
theorem paid_now (g : GS) (i : InsR) : (paid g i).now = g.now + costv i.op ∧ (paid g i).fuel = g.fuel := ⟨rfl, rfl⟩
theorem paid_mv (g : GS) (i i' : InsR) (n' : Int) (h : i'.op = i.op) : paid { g with now := n' } i' = { paid g i with now := n' + costv i.op } := by unfold paid; rw [h]
/-- apart from the place of the rule each step is the same -/
theorem step_other (hk : k0 < fs.length) (hl : at_ + many ≤ (fs.getD k0 noFn).l.length) (h1 : 1 ≤ many) (hfree : Free (fs.getD k0 noFn).l at_ many) {f : Fr} {rest : List Fr} {g : GS} {n' : Int} (ho : ∀ x ∈ f :: rest, OutF k0 at_ many x) (hn : f.fn = k0 → f.at_ ≠ at_)
    (h25 : (curI fs f).op ≠ 25) (hnow : n' ≤ g.now) (hfu : ¬ g.fuel < g.now + costv (curI fs f).op) :
    SimC k0 at_ many bs.length (step fs (.run (f :: rest) g)) (step (setL fs k0 (replv (fs.getD k0 noFn).l at_ many bs)) (.run ((f :: rest).map (mvF k0 at_ many bs.length)) { g with now := n' })) := by
  have hof := ho f List.mem_cons_self
  have hor : ∀ x ∈ rest, OutF k0 at_ many x := fun x hx => ho x (List.mem_cons_of_mem _ hx)
  have hcur := cur_set (bs := bs) hk hl h1 hof hn
  obtain ⟨i, hi⟩ : ∃ z, z = curI fs f := ⟨_, rfl⟩
  obtain ⟨i', hi'⟩ : ∃ z, z = curI (setL fs k0 (replv (fs.getD k0 noFn).l at_ many bs)) (mvF k0 at_ many bs.length f) := ⟨_, rfl⟩
  rw [← hi, ← hi'] at hcur
  rw [← hi] at h25 hfu
  have hop : i'.op = i.op ∧ i'.n = i.n := by
    rw [hcur]
    split
    · exact fixA_op _ _ _ _
    · exact ⟨rfl, rfl⟩
  have hplain : jumpsv i = false → i' = i := fun hj => by
    rw [hcur]
    split
    · exact fixA_not hj
    · rfl
  obtain ⟨m, hm⟩ : ∃ z, z = bs.length := ⟨_, rfl⟩
  rw [← hm] at hcur hi' ⊢
  -- a step on
  have hon : ∀ st vs ar, OutF k0 at_ many ⟨f.fn, f.at_ + 1, vs, ar, st⟩ ∧ mvF k0 at_ many m ⟨f.fn, f.at_ + 1, vs, ar, st⟩ = ⟨f.fn, (mvF k0 at_ many m f).at_ + 1, vs, ar, st⟩ := fun st vs ar => by
    by_cases e : f.fn = k0
    · obtain ⟨p1, p2⟩ := phi_succ (m := m) (hof e) (hn e) h1
      refine ⟨fun _ => p2, ?_⟩
      unfold mvF
      rw [if_pos e, if_pos e]
      simp only
      rw [p1]
    · refine ⟨fun x => absurd x e, ?_⟩
      unfold mvF
      rw [if_neg e, if_neg e]
  -- a jump
  have hjump : jumpsv i = true → ∀ st, OutF k0 at_ many ⟨f.fn, i.a.toNat, f.vars, f.arrs, st⟩ ∧ mvF k0 at_ many m ⟨f.fn, i.a.toNat, f.vars, f.arrs, st⟩ = ⟨f.fn, i'.a.toNat, f.vars, f.arrs, st⟩ := fun hj st => by
    by_cases e : f.fn = k0
    · have hmem : i ∈ (fs.getD k0 noFn).l := by
        rw [hi]
        unfold curI
        rw [e, List.getD_eq_getElem?_getD (i := f.at_)]
        rcases hq : (fs.getD k0 noFn).l[f.at_]? with _ | y
        · exfalso
          rw [hi] at hj
          unfold curI at hj
          rw [e, List.getD_eq_getElem?_getD (i := f.at_), hq] at hj
          cases hj
        · exact List.mem_of_getElem? hq
      obtain ⟨p1, p2⟩ := fixT_phi (m := m) h1 (fun j hj1 hj2 => hfree j hj1 hj2 i hmem hj)
      refine ⟨fun _ => p2, ?_⟩
      rw [hcur, if_pos e, fixA_jump hj]
      unfold mvF
      rw [if_pos e]
      simp only
      rw [p1]
    · refine ⟨fun x => absurd x e, ?_⟩
      rw [hcur, if_neg e]
      unfold mvF
      rw [if_neg e]
  obtain ⟨m1, m2, m3, m4⟩ := mvF_fields (k0 := k0) (at_ := at_) (many := many) m f
  rw [List.map_cons, step_eq, step_eq, ← hi, ← hi', paid_mv g i i' n' hop.1, m1, m2, m3, m4, hop.1]
  rw [if_neg (show ¬ (paid g i).fuel < (paid g i).now from hfu), if_neg (show ¬ ({ paid g i with now := n' + costv i.op } : GS).fuel < ({ paid g i with now := n' + costv i.op } : GS).now from fun h => hfu (by
    have h : g.fuel < n' + costv i.op := h
    omega))]
  have hle : n' + costv i.op ≤ (paid g i).now := by show n' + costv i.op ≤ g.now + costv i.op; omega
  have hmem : ∀ (y : Fr), OutF k0 at_ many y → ∀ x ∈ y :: rest, OutF k0 at_ many x := fun y hy x hx => by
    rcases List.mem_cons.1 hx with rfl | hx
    · exact hy
    · exact hor x hx
  by_cases h18 : i.op = 18
  · rw [if_pos h18, if_pos h18]
    unfold retC
    cases rest with
    | nil => exact ⟨_, hle, rfl⟩
    | cons y r =>
      refine ⟨fun x hx => ?_, _, hle, ?_⟩
      · rcases List.mem_cons.1 hx with rfl | hx
        · exact hor y List.mem_cons_self
        · exact hor x (List.mem_cons_of_mem _ hx)
      · have hy : mvF k0 at_ many m { y with stack := y.stack ++ [top f.stack] } = { mvF k0 at_ many m y with stack := (mvF k0 at_ many m y).stack ++ [top f.stack] } := by
          unfold mvF
          split <;> rfl
        rw [List.map_cons, List.map_cons, hy]
  · rw [if_neg h18, if_neg h18]
    by_cases h16 : i.op = 16
    · have hj : jumpsv i = true := by unfold jumpsv; rw [decide_eq_true (.inr h16)]
      rw [if_pos h16, if_pos h16]
      by_cases ht : top f.stack = 0
      · rw [if_pos ht, if_pos ht]
        obtain ⟨q1, q2⟩ := hjump hj f.stack.dropLast
        exact ⟨hmem _ q1, _, hle, by rw [List.map_cons, q2]⟩
      · rw [if_neg ht, if_neg ht]
        obtain ⟨q1, q2⟩ := hon f.stack.dropLast f.vars f.arrs
        exact ⟨hmem _ q1, _, hle, by rw [List.map_cons, q2]⟩
    · rw [if_neg h16, if_neg h16]
      by_cases h15 : i.op = 15
      · have hj : jumpsv i = true := by unfold jumpsv; rw [decide_eq_true (.inl h15)]
        rw [if_pos h15, if_pos h15]
        obtain ⟨q1, q2⟩ := hjump hj f.stack
        exact ⟨hmem _ q1, _, hle, by rw [List.map_cons, q2]⟩
      · rw [if_neg h15, if_neg h15]
        have hj : jumpsv i = false := by unfold jumpsv; rw [decide_eq_false (by omega)]
        rw [hplain hj]
        by_cases h17 : i.op = 17
        · rw [if_pos h17, if_pos h17, List.length_map]
          by_cases hd : 64 < rest.length + 1
          · rw [if_pos hd, if_pos hd]
            exact ⟨_, hle, rfl⟩
          · rw [if_neg hd, if_neg hd, newFr_set hk, parsOf_set hk]
            obtain ⟨q1, q2⟩ := hon (f.stack.take (f.stack.length - parsOf fs i.a)) f.vars f.arrs
            have hnf : ∀ args, mvF k0 at_ many m (newFr fs i.a.toNat args) = newFr fs i.a.toNat args := fun args => by
              unfold mvF newFr phi
              split
              · rw [if_pos (Nat.zero_le _)]
              · rfl
            refine ⟨fun x hx => ?_, _, hle, by rw [List.map_cons, List.map_cons, q2, hnf]⟩
            rcases List.mem_cons.1 hx with rfl | hx
            · exact fun _ => .inl (Nat.zero_le _)
            · exact hmem _ q1 x hx
        · rw [if_neg h17, if_neg h17]
          have hd := doesv_mv i h25 { f with at_ := f.at_ + 1 } (paid g i) ((mvF k0 at_ many m f).at_ + 1) (n' + costv i.op)
          have hd : doesv i (⟨f.fn, (mvF k0 at_ many m f).at_ + 1, f.vars, f.arrs, f.stack⟩ : Fr) { paid g i with now := n' + costv i.op } = _ := hd
          rw [hd]
          obtain ⟨r1, r2, r3, r4⟩ := doesv_keep i { f with at_ := f.at_ + 1 } (paid g i)
          obtain ⟨r, hr⟩ : ∃ z, z = doesv i { f with at_ := f.at_ + 1 } (paid g i) := ⟨_, rfl⟩
          rw [← hr] at r1 r2 r3 r4 ⊢
          obtain ⟨e, f2, g2⟩ := r
          simp only at r1 r2 r3 r4 ⊢
          by_cases he : e = 0
          · rw [if_pos he, if_pos he]
            obtain ⟨fn2, at2, vs2, ar2, st2⟩ := f2
            simp only at r1 r2
            subst r1 r2
            obtain ⟨q1, q2⟩ := hon st2 vs2 ar2
            exact ⟨hmem _ q1, _, by rw [r3]; exact hle, by rw [List.map_cons, q2]⟩
          · rw [if_neg he, if_neg he]
            exact ⟨_, by rw [r3]; exact hle, rfl⟩
end
end Go.Proofs.YtahmnmpfjgddpaaGreatDoor
