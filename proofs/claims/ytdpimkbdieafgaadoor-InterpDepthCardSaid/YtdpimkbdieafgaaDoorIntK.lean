/- interp: a round of run, plainly. -/
import Derived.Test.YtdpimkbdieafgaaDoorIntI
namespace Go.Proofs.YtdpimkbdieafgaaDoor
set_option linter.unusedVariables false
set_option linter.unusedSimpArgs false
open Go.RowKit

theorem wrap_id {x : Int} (h : -9223372036854775808 ≤ x ∧ x ≤ 9223372036854775807) : wrap64 x = x := by unfold wrap64; omega

/-- what stands at a place -/
structure At (fs : List FnR) (f : FnR) (p n : Nat) (i : InsR) : Prop where
  lt : p < f.l.length
  ins : f.l[p]? = some i
  get : f.l.getD p noIns = i
  ok : opOk fs.length f i = true
  takes : takesAt fs i ≤ (n : Int) ∧ 0 ≤ takesAt fs i
  call : i.op = 17 → (1 ≤ i.a ∧ i.a < (fs.length : Int)) ∧ takesAt fs i = (fs.getD i.a.toNat noFn).ps
  plain : i.op ≠ 17 → takesAt fs i = takesv i.op
  succ : ∀ q ∈ succs i (p : Int), 0 ≤ q ∧ depthsOf fs f q = some ((n : Int) - takesAt fs i + leavesv i.op)
theorem at_of {fs : List FnR} {f : FnR} (hfs : CodeOk fs) (hf : goodF fs f) {p n : Nat} (hd : depthsOf fs f (p : Int) = some (n : Int)) (hn : n ≤ 1048576) : At fs f p n (f.l.getD p noIns) := by
  have hW := depths_ok hf.2
  obtain ⟨hr, hok, hsu⟩ := hW.2 _ _ hd
  have hp : p < f.l.length := by omega
  have hi : insAt f (p : Int) = f.l.getD p noIns := by unfold insAt; rw [Int.toNat_natCast]
  rw [hi] at hok hsu
  obtain ⟨i, hie⟩ : ∃ i, f.l.getD p noIns = i := ⟨_, rfl⟩
  have hins : f.l[p]? = some i := by rw [← hie, List.getD_eq_getElem?_getD, List.getElem?_eq_getElem hp]; rfl
  rw [hie] at hok hsu ⊢
  unfold okAt at hok
  rw [Bool.and_eq_true, decide_eq_true_eq] at hok
  have hkn := opOk_known hok.1
  have hts := takes_small hkn
  have hls := leaves_small hkn
  have h17 : i.op = 17 → (1 ≤ i.a ∧ i.a < (fs.length : Int)) ∧ takesAt fs i = (fs.getD i.a.toNat noFn).ps ∧ 0 ≤ takesAt fs i ∧ takesAt fs i ≤ 8 := fun h => by
    have h1 := hok.1
    unfold opOk at h1
    simp [h] at h1
    have e : takesAt fs i = (fs.getD i.a.toNat noFn).ps := by unfold takesAt; rw [if_pos h]
    have hk : i.a.toNat < fs.length := by omega
    have hg := (hfs.2.2 _ (List.getElem_mem hk)).1.1
    have e2 : fs.getD i.a.toNat noFn = fs[i.a.toNat] := by rw [List.getD_eq_getElem?_getD, List.getElem?_eq_getElem hk]; rfl
    refine ⟨h1, e, ?_⟩
    rw [e, e2]
    omega
  have hpl : i.op ≠ 17 → takesAt fs i = takesv i.op := fun h => by unfold takesAt; rw [if_neg h]
  have htb : 0 ≤ takesAt fs i ∧ takesAt fs i ≤ 8 := by
    by_cases h : i.op = 17
    · exact (h17 h).2.2
    · rw [hpl h]; omega
  have hw : wrap64 ((n : Int) - takesAt fs i) = (n : Int) - takesAt fs i := wrap_id (by omega)
  rw [hw] at hok
  refine ⟨hp, hins, hie, hok.1, ⟨by omega, htb.1⟩, fun h => ⟨(h17 h).1, (h17 h).2.1⟩, hpl, fun q hq => ?_⟩
  have h1 := hsu q hq
  unfold behind at h1
  rw [hw, wrap_id (by omega)] at h1
  exact ⟨(hW.range _ _ h1).1, h1⟩

/-! ### steps -/
def To (fs : List FnR) (f : Fr) (d : Nat) (g : GS) (T : List Fr → Conf) : Prop := ∃ k, ∀ rest : List Fr, rest.length + 1 = d → iter fs k (.run (f :: rest) g) = T rest
theorem To.refl (fs : List FnR) (f : Fr) (d : Nat) (g : GS) : To fs f d g (fun rest => .run (f :: rest) g) := ⟨0, fun _ _ => rfl⟩
theorem To.trans {fs : List FnR} {f f2 : Fr} {d : Nat} {g g2 : GS} {T : List Fr → Conf} (h : To fs f d g (fun rest => .run (f2 :: rest) g2)) (h2 : To fs f2 d g2 T) : To fs f d g T := by
  obtain ⟨k, hk⟩ := h
  obtain ⟨j, hj⟩ := h2
  exact ⟨k + j, fun rest hr => by rw [iter_add, hk rest hr]; exact hj rest hr⟩
theorem To.one {fs : List FnR} {f : Fr} {d : Nat} {g : GS} {T : List Fr → Conf} (h : ∀ rest : List Fr, rest.length + 1 = d → step fs (.run (f :: rest) g) = T rest) : To fs f d g T := ⟨1, h⟩
def paid (g : GS) (i : InsR) : GS := { g with now := g.now + costv i.op }
theorem to_over {fs : List FnR} {f : Fr} {d : Nat} {g : GS} {i : InsR} (hi : curI fs f = i) (h : (paid g i).fuel < (paid g i).now) : To fs f d g (fun rest => outC 0 8 rest (paid g i)) := To.one fun rest hr => by
  subst hi
  unfold paid at h ⊢
  simp only [step]
  rw [if_pos h]
  rfl
theorem to_ret {fs : List FnR} {f : Fr} {d : Nat} {g : GS} {i : InsR} (hi : curI fs f = i) (h : ¬ (paid g i).fuel < (paid g i).now) (ho : i.op = 18) : To fs f d g (fun rest => outC (top f.stack) 0 rest (paid g i)) := To.one fun rest hr => by
  subst hi
  unfold paid at h ⊢
  simp only [step]
  rw [if_neg h, if_pos ho]
  rfl
theorem to_jz {fs : List FnR} {f : Fr} {d : Nat} {g : GS} {i : InsR} (hi : curI fs f = i) (h : ¬ (paid g i).fuel < (paid g i).now) (ho : i.op = 16) (ht : top f.stack = 0) : To fs f d g (fun rest => .run (⟨f.fn, i.a.toNat, f.vars, f.arrs, f.stack.dropLast⟩ :: rest) (paid g i)) := To.one fun rest hr => by
  subst hi
  unfold paid at h ⊢
  simp only [step]
  rw [if_neg h, if_neg (by omega), if_pos ho, if_pos ht]
theorem to_jn {fs : List FnR} {f : Fr} {d : Nat} {g : GS} {i : InsR} (hi : curI fs f = i) (h : ¬ (paid g i).fuel < (paid g i).now) (ho : i.op = 16) (ht : ¬ top f.stack = 0) : To fs f d g (fun rest => .run (⟨f.fn, f.at_ + 1, f.vars, f.arrs, f.stack.dropLast⟩ :: rest) (paid g i)) := To.one fun rest hr => by
  subst hi
  unfold paid at h ⊢
  simp only [step]
  rw [if_neg h, if_neg (by omega), if_pos ho, if_neg ht]
theorem to_jmp {fs : List FnR} {f : Fr} {d : Nat} {g : GS} {i : InsR} (hi : curI fs f = i) (h : ¬ (paid g i).fuel < (paid g i).now) (ho : i.op = 15) : To fs f d g (fun rest => .run (⟨f.fn, i.a.toNat, f.vars, f.arrs, f.stack⟩ :: rest) (paid g i)) := To.one fun rest hr => by
  subst hi
  unfold paid at h ⊢
  simp only [step]
  rw [if_neg h, if_neg (by omega), if_neg (by omega), if_pos ho]
theorem to_does {fs : List FnR} {f : Fr} {d : Nat} {g : GS} {i : InsR} (hi : curI fs f = i) (h : ¬ (paid g i).fuel < (paid g i).now) (hnc : i.op ≠ 15 ∧ i.op ≠ 16 ∧ i.op ≠ 17 ∧ i.op ≠ 18) :
    To fs f d g (fun rest => if (doesv i { f with at_ := f.at_ + 1 } (paid g i)).1 = 0 then .run ((doesv i { f with at_ := f.at_ + 1 } (paid g i)).2.1 :: rest) (doesv i { f with at_ := f.at_ + 1 } (paid g i)).2.2 else outC 0 (doesv i { f with at_ := f.at_ + 1 } (paid g i)).1 rest (doesv i { f with at_ := f.at_ + 1 } (paid g i)).2.2) := To.one fun rest hr => by
  subst hi
  unfold paid at h ⊢
  simp only [step]
  rw [if_neg h, if_neg (by omega), if_neg (by omega), if_neg (by omega), if_neg (by omega)]
  split
  · rfl
  · rename_i hne
    unfold outC
    rw [if_neg hne]
theorem to_call {fs : List FnR} {f : Fr} {d : Nat} {g : GS} {i : InsR} (hi : curI fs f = i) (h : ¬ (paid g i).fuel < (paid g i).now) (ho : i.op = 17) {n err : Int} {g2 : GS} (hc : CallO fs i.a.toNat (f.stack.drop (f.stack.length - parsOf fs i.a)) d (paid g i) n err g2) :
    To fs f d g (fun rest => if err = 0 then .run (⟨f.fn, f.at_ + 1, f.vars, f.arrs, f.stack.take (f.stack.length - parsOf fs i.a) ++ [n]⟩ :: rest) g2 else outC 0 err rest g2) := by
  subst hi
  rcases hc with ⟨h64, rfl, rfl, rfl⟩ | ⟨h64, _, k, hk⟩
  · refine To.one fun rest hr => ?_
    unfold paid at h ⊢
    simp only [step]
    rw [if_neg h, if_neg (by omega), if_neg (by omega), if_neg (by omega), if_pos ho, if_pos (by omega)]
    rfl
  · refine ⟨1 + k, fun rest hr => ?_⟩
    rw [iter_add]
    have e : iter fs 1 (.run (f :: rest) g) = .run (newFr fs (curI fs f).a.toNat (f.stack.drop (f.stack.length - parsOf fs (curI fs f).a)) :: { f with at_ := f.at_ + 1, stack := f.stack.take (f.stack.length - parsOf fs (curI fs f).a) } :: rest) (paid g (curI fs f)) := by
      show step fs (.run (f :: rest) g) = _
      unfold paid at h ⊢
      simp only [step]
      rw [if_neg h, if_neg (by omega), if_neg (by omega), if_neg (by omega), if_pos ho, if_neg (by omega)]
    rw [e, hk _ (by simp; omega)]
    unfold outC
    split
    · rfl
    · rfl

/-! ### what does leaves -/
theorem leaves_one {op : Int} (h : 4 ≤ op ∧ op ≤ 14) : leavesv op = 1 := by
  have h : op = 4 ∨ op = 5 ∨ op = 6 ∨ op = 7 ∨ op = 8 ∨ op = 9 ∨ op = 10 ∨ op = 11 ∨ op = 12 ∨ op = 13 ∨ op = 14 := by omega
  rcases h with rfl | rfl | rfl | rfl | rfl | rfl | rfl | rfl | rfl | rfl | rfl <;> rfl
structure Kept (f f' : Fr) (g g' : GS) : Prop where
  fn : f'.fn = f.fn
  at_ : f'.at_ = f.at_
  vars : f'.vars.length = f.vars.length
  arrs : f'.arrs.length = f.arrs.length
  now : g'.now = g.now
  fuel : g'.fuel = g.fuel
  q : g'.q = g.q
  pr : g'.pr.length ≤ g.pr.length + 1
  ke : g'.ke.length ≤ g.ke.length + 1
  cl : g'.cl.length ≤ g.cl.length + 1
def KeptR (f : Fr) (g : GS) (r : Int × Fr × GS) : Prop := Kept f r.2.1 g r.2.2
theorem kept_ite {f : Fr} {g : GS} {c : Prop} [Decidable c] {a b : Int × Fr × GS} (h1 : KeptR f g a) (h2 : KeptR f g b) : KeptR f g (if c then a else b) := by split <;> assumption
theorem kept_opt {f : Fr} {g : GS} {o : Option Int} {a : Int → Int × Fr × GS} {b : Int × Fr × GS} (h1 : ∀ n, KeptR f g (a n)) (h2 : KeptR f g b) : KeptR f g (match o with | some n => a n | none => b) := by cases o with | none => exact h2 | some n => exact h1 n
theorem doesv_kept (i : InsR) (f : Fr) (g : GS) : Kept f (doesv i f g).2.1 g (doesv i f g).2.2 := by
  show KeptR f g (doesv i f g)
  unfold doesv
  repeat' first
    | refine kept_ite ?_ ?_
    | refine kept_opt (fun n => ?_) ?_
  all_goals first | exact ⟨rfl, rfl, rfl, rfl, rfl, rfl, rfl, Nat.le_succ _, Nat.le_succ _, Nat.le_succ _⟩ | (constructor <;> simp)
theorem doesv_len {i : InsR} {f : Fr} {g : GS} (hk : 1 ≤ i.op ∧ i.op ≤ 25) (hnc : i.op ≠ 15 ∧ i.op ≠ 16 ∧ i.op ≠ 17 ∧ i.op ≠ 18) (ht : takesv i.op ≤ (f.stack.length : Int)) (h0 : (doesv i f g).1 = 0) : ((doesv i f g).2.1.stack.length : Int) = (f.stack.length : Int) - takesv i.op + leavesv i.op := by
  obtain ⟨op, a, z⟩ := i
  simp only at hk hnc ht h0 ⊢
  have hcs : op = 1 ∨ op = 2 ∨ op = 3 ∨ (op = 4 ∨ op = 5) ∨ (6 ≤ op ∧ op ≤ 14) ∨ op = 19 ∨ op = 20 ∨ op = 21 ∨ op = 22 ∨ op = 23 ∨ op = 24 ∨ op = 25 := by omega
  rcases hcs with rfl | rfl | rfl | ho | ho | rfl | rfl | rfl | rfl | rfl | rfl | rfl
  · show ((f.stack ++ [z]).length : Int) = (f.stack.length : Int) - 0 + 1; simp
  · show ((f.stack ++ [_]).length : Int) = (f.stack.length : Int) - 0 + 1; simp
  · have ht : (1 : Int) ≤ (f.stack.length : Int) := ht
    show ((f.stack.dropLast).length : Int) = (f.stack.length : Int) - 1 + 0
    rw [List.length_dropLast]; omega
  · have e1 : takesv op = 1 := by rcases ho with rfl | rfl <;> rfl
    rw [e1] at ht ⊢
    rw [leaves_one (by omega)]
    obtain ⟨s, x, e⟩ := snoc_of (l := f.stack) (by omega)
    have hd := doesv_op1 op a z f g s x e ho
    rw [hd] at h0 ⊢
    split at h0
    · rename_i hb
      rw [if_pos hb]
      rw [e]
      simp
    · cases h0
  · rw [takes_two ho] at ht ⊢
    rw [leaves_one (by omega)]
    obtain ⟨s, x, y, e⟩ := snoc2_of (l := f.stack) (by omega)
    have hd := doesv_op2 op a z f g s x y e ho
    rw [hd] at h0 ⊢
    split at h0
    · rename_i hb
      rw [if_pos hb]
      rw [e]
      simp
    · cases h0
  · have ht : (1 : Int) ≤ (f.stack.length : Int) := ht
    show ((f.stack.dropLast).length : Int) = (f.stack.length : Int) - 1 + 0
    rw [List.length_dropLast]; omega
  · have ht : (1 : Int) ≤ (f.stack.length : Int) := ht
    show ((f.stack.dropLast).length : Int) = (f.stack.length : Int) - 1 + 0
    rw [List.length_dropLast]; omega
  · have e : (doesv ⟨21, a, z⟩ f g).2.1.stack = f.stack := by unfold doesv; simp; split <;> rfl
    rw [e]
    show (f.stack.length : Int) = (f.stack.length : Int) - 0 + 0
    omega
  · show ((f.stack).length : Int) = (f.stack.length : Int) - 0 + 0
    omega
  · have ht : (1 : Int) ≤ (f.stack.length : Int) := ht
    have hd : doesv ⟨23, a, z⟩ f g = (match cellv g.xss (f.arrs.getD a.toNat 0) (top f.stack) with
      | some n => (0, { f with stack := f.stack.dropLast ++ [n] }, g)
      | none => (7, f, g)) := rfl
    rw [hd] at h0 ⊢
    cases hcv : cellv g.xss (f.arrs.getD a.toNat 0) (top f.stack) with
    | none => rw [hcv] at h0; cases h0
    | some n =>
      show ((f.stack.dropLast ++ [n]).length : Int) = (f.stack.length : Int) - 1 + 1
      simp
      omega
  · have ht : (2 : Int) ≤ (f.stack.length : Int) := ht
    have hd : doesv ⟨24, a, z⟩ f g = (match cellv g.xss (f.arrs.getD a.toNat 0) (top f.stack.dropLast) with
      | some _ => (0, { f with stack := f.stack.dropLast.dropLast }, { g with xss := setv g.xss (f.arrs.getD a.toNat 0) (top f.stack.dropLast) (top f.stack) })
      | none => (7, f, g)) := rfl
    rw [hd] at h0 ⊢
    cases hcv : cellv g.xss (f.arrs.getD a.toNat 0) (top f.stack.dropLast) with
    | none => rw [hcv] at h0; cases h0
    | some n =>
      show ((f.stack.dropLast.dropLast).length : Int) = (f.stack.length : Int) - 2 + 0
      simp
      omega
  · show ((f.stack ++ [_]).length : Int) = (f.stack.length : Int) - 0 + 1; simp

/-! ### the rounds' relation -/
structure RInv (fs : List FnR) (fn : Nat) (f : FnR) (args : List Int) (d : Nat) (g : GS) (p : Nat) (vars arrs stack : List Int) (g' : GS) : Prop where
  dep : depthsOf fs f (p : Int) = some (stack.length : Int)
  vl : (vars.length : Int) = f.vs
  al : (arrs.length : Int) = f.ar
  ok : GLe g g'
  sl : (stack.length : Int) ≤ g'.now
  run : To fs (newFr fs fn args) d g (fun rest => .run (⟨fn, p, vars, arrs, stack⟩ :: rest) g')
variable {fs : List FnR} {fn : Nat} {f : FnR} {args : List Int} {d : Nat} {g : GS} {p : Nat} {vars arrs stack : List Int} {g' : GS}
theorem RInv.at (h : RInv fs fn f args d g p vars arrs stack g') (hfs : CodeOk fs) (hf : goodF fs f) : At fs f p stack.length (f.l.getD p noIns) := at_of hfs hf h.dep (by have := h.sl; have := h.ok.ok.nf; have := h.ok.ok.fm; omega)
theorem RInv.cur (h : RInv fs fn f args d g p vars arrs stack g') (hfn : fs.getD fn noFn = f) {i : InsR} (hi : f.l.getD p noIns = i) : curI fs ⟨fn, p, vars, arrs, stack⟩ = i := by unfold curI; simp only; rw [hfn, hi]
theorem gle_paid (h : GLe g g') {i : InsR} (hk : 1 ≤ i.op ∧ i.op ≤ 25) (hn : ¬ (paid g' i).fuel < (paid g' i).now) : GLe g (paid g' i) ∧ (paid g' i).now > g'.now ∧ ((paid g' i).fuel - (paid g' i).now).toNat < (g'.fuel - g'.now).toNat ∧ (g'.now < (paid g' i).now) := by
  have hc := cost_small hk
  have hnow : (paid g' i).now = g'.now + costv i.op := rfl
  have hfu : (paid g' i).fuel = g'.fuel := rfl
  have o := h.ok
  have o1 := o.n0
  have o2 := o.nf
  have o3 := o.fm
  have o4 := h.now
  have o5 := h.fuel
  refine ⟨⟨⟨by omega, by omega, by rw [hfu]; exact o3, ?_, ?_, ?_⟩, by omega, h.fuel, h.q⟩, by omega, by omega, by omega⟩
  · have : ((paid g' i).pr.length : Int) ≤ g'.now := o.pr; omega
  · have : ((paid g' i).ke.length : Int) ≤ g'.now := o.ke; omega
  · have : ((paid g' i).cl.length : Int) ≤ g'.now := o.cl; omega
theorem gle_does (h : GLe g g') {i : InsR} (hk : 1 ≤ i.op ∧ i.op ≤ 25) (hn : ¬ (paid g' i).fuel < (paid g' i).now) (fr : Fr) : GLe g (doesv i fr (paid g' i)).2.2 := by
  have k := doesv_kept i fr (paid g' i)
  obtain ⟨h1, h2, _, h3⟩ := gle_paid h hk hn
  have o := h1.ok
  have e1 : ((paid g' i).pr.length : Int) ≤ g'.now := h.ok.pr
  have e2 : ((paid g' i).ke.length : Int) ≤ g'.now := h.ok.ke
  have e3 : ((paid g' i).cl.length : Int) ≤ g'.now := h.ok.cl
  have k1 := k.pr
  have k2 := k.ke
  have k3 := k.cl
  refine ⟨⟨?_, ?_, ?_, ?_, ?_, ?_⟩, ?_, ?_, ?_⟩
  · rw [k.now]; exact o.n0
  · rw [k.now, k.fuel]; exact o.nf
  · rw [k.fuel]; exact o.fm
  · rw [k.now]; omega
  · rw [k.now]; omega
  · rw [k.now]; omega
  · rw [k.now]; exact h1.now
  · rw [k.fuel]; exact h1.fuel
  · rw [k.q]; exact h1.q
theorem GLe.trans {a b c : GS} (h : GLe a b) (k : GLe b c) : GLe a c := ⟨k.ok, Int.le_trans h.now k.now, k.fuel.trans h.fuel, k.q.trans h.q⟩
theorem RInv.next (h : RInv fs fn f args d g p vars arrs stack g') {i : InsR} (hA : At fs f p stack.length i) {p2 : Nat} {vars2 arrs2 stack2 : List Int} {g2 : GS} (hto : To fs ⟨fn, p, vars, arrs, stack⟩ d g' (fun rest => .run (⟨fn, p2, vars2, arrs2, stack2⟩ :: rest) g2))
    (hq : (p2 : Int) ∈ succs i (p : Int)) (hl : (stack2.length : Int) = (stack.length : Int) - takesAt fs i + leavesv i.op) (hv : vars2.length = vars.length) (ha : arrs2.length = arrs.length) (hg : GLe g g2) (hn : g'.now < g2.now) : RInv fs fn f args d g p2 vars2 arrs2 stack2 g2 := by
  have hls := leaves_small (opOk_known hA.ok)
  have hsl := h.sl
  have ht := hA.takes
  exact ⟨by rw [hl]; exact (hA.succ _ hq).2, by rw [hv]; exact h.vl, by rw [ha]; exact h.al, hg, by omega, h.run.trans hto⟩
theorem RInv.jmp (h : RInv fs fn f args d g p vars arrs stack g') (hfn : fs.getD fn noFn = f) {i : InsR} (hA : At fs f p stack.length i) (hn : ¬ (paid g' i).fuel < (paid g' i).now) (ho : i.op = 15) : RInv fs fn f args d g i.a.toNat vars arrs stack (paid g' i) ∧ ((i.a.toNat : Nat) : Int) = i.a := by
  obtain ⟨h1, _, _, h2⟩ := gle_paid h.ok (opOk_known hA.ok) hn
  have hs : i.a ∈ succs i (p : Int) := by unfold succs; rw [if_neg (by omega), if_pos ho]; simp
  have e := (hA.succ _ hs).1
  have e2 : ((i.a.toNat : Nat) : Int) = i.a := by omega
  refine ⟨h.next hA (to_jmp (h.cur hfn hA.get) hn ho) (by rw [e2]; exact hs) ?_ rfl rfl h1 h2, e2⟩
  rw [hA.plain (by omega), ho]
  show _ = (stack.length : Int) - 0 + 0
  omega
theorem RInv.jz (h : RInv fs fn f args d g p vars arrs stack g') (hfn : fs.getD fn noFn = f) {i : InsR} (hA : At fs f p stack.length i) (hn : ¬ (paid g' i).fuel < (paid g' i).now) (ho : i.op = 16) {s : List Int} (hst : stack = s ++ [0]) : RInv fs fn f args d g i.a.toNat vars arrs s (paid g' i) ∧ ((i.a.toNat : Nat) : Int) = i.a := by
  subst hst
  obtain ⟨h1, _, _, h2⟩ := gle_paid h.ok (opOk_known hA.ok) hn
  have hs : i.a ∈ succs i (p : Int) := by unfold succs; rw [if_neg (by omega), if_neg (by omega), if_pos ho]; simp
  have e := (hA.succ _ hs).1
  have e2 : ((i.a.toNat : Nat) : Int) = i.a := by omega
  have hto := to_jz (d := d) (h.cur hfn hA.get) hn ho (top_snoc s 0)
  simp only [List.dropLast_concat] at hto
  refine ⟨h.next hA hto (by rw [e2]; exact hs) ?_ rfl rfl h1 h2, e2⟩
  rw [hA.plain (by omega), ho]
  show _ = ((s ++ [0]).length : Int) - 1 + 0
  simp
theorem RInv.jn (h : RInv fs fn f args d g p vars arrs stack g') (hfn : fs.getD fn noFn = f) {i : InsR} (hA : At fs f p stack.length i) (hn : ¬ (paid g' i).fuel < (paid g' i).now) (ho : i.op = 16) {s : List Int} {y : Int} (hst : stack = s ++ [y]) (hy : y ≠ 0) : RInv fs fn f args d g (p + 1) vars arrs s (paid g' i) := by
  subst hst
  obtain ⟨h1, _, _, h2⟩ := gle_paid h.ok (opOk_known hA.ok) hn
  have hto := to_jn (d := d) (h.cur hfn hA.get) hn ho (by rw [top_snoc]; exact hy)
  simp only [List.dropLast_concat] at hto
  refine h.next hA hto (by unfold succs; rw [if_neg (by omega), if_neg (by omega), if_pos ho]; simp) ?_ rfl rfl h1 h2
  rw [hA.plain (by omega), ho]
  show _ = ((s ++ [y]).length : Int) - 1 + 0
  simp
theorem RInv.does (h : RInv fs fn f args d g p vars arrs stack g') (hfn : fs.getD fn noFn = f) {i : InsR} (hA : At fs f p stack.length i) (hn : ¬ (paid g' i).fuel < (paid g' i).now) (hnc : i.op ≠ 15 ∧ i.op ≠ 16 ∧ i.op ≠ 17 ∧ i.op ≠ 18) {r : Int × Fr × GS} (hr : doesv i ⟨fn, p + 1, vars, arrs, stack⟩ (paid g' i) = r) :
    (r.1 = 0 → RInv fs fn f args d g (p + 1) r.2.1.vars r.2.1.arrs r.2.1.stack r.2.2) ∧ (r.1 ≠ 0 → Rand fs (newFr fs fn args) d g 0 r.1 r.2.2) := by
  have hkn := opOk_known hA.ok
  obtain ⟨h1, _, _, h2⟩ := gle_paid h.ok hkn hn
  have hto := to_does (d := d) (h.cur hfn hA.get) hn hnc
  have hk := doesv_kept i ⟨fn, p + 1, vars, arrs, stack⟩ (paid g' i)
  have hg := gle_does h.ok hkn hn ⟨fn, p + 1, vars, arrs, stack⟩
  have htk : takesv i.op ≤ (stack.length : Int) := by rw [← hA.plain (by omega)]; exact hA.takes.1
  have hl := fun h0 => doesv_len (g := paid g' i) (f := ⟨fn, p + 1, vars, arrs, stack⟩) hkn hnc htk h0
  simp only at hto hk hl
  rw [hr] at hto hk hg hl
  refine ⟨fun h0 => ?_, fun h0 => ?_⟩
  · have hto : To fs ⟨fn, p, vars, arrs, stack⟩ d g' (fun rest => .run (r.2.1 :: rest) r.2.2) := by
      obtain ⟨k, hk⟩ := hto
      exact ⟨k, fun rest hr => by rw [hk rest hr]; exact if_pos h0⟩
    have e : r.2.1 = ⟨fn, p + 1, r.2.1.vars, r.2.1.arrs, r.2.1.stack⟩ := by
      have e1 := hk.fn
      have e2 := hk.at_
      generalize r.2.1 = q at *
      obtain ⟨_, _, _, _, _⟩ := q
      simp only at e1 e2
      rw [e1, e2]
    rw [e] at hto
    refine h.next hA hto (by unfold succs; rw [if_neg (by omega), if_neg (by omega), if_neg (by omega)]; simp) ?_ hk.vars hk.arrs hg (by rw [hk.now]; exact h2)
    rw [hA.plain (by omega)]
    exact hl h0
  · have hto : To fs ⟨fn, p, vars, arrs, stack⟩ d g' (fun rest => outC 0 r.1 rest r.2.2) := by
      obtain ⟨k, hk⟩ := hto
      exact ⟨k, fun rest hr => by rw [hk rest hr]; exact if_neg h0⟩
    exact ⟨fun _ => rfl, h.run.trans hto⟩
theorem RInv.call (h : RInv fs fn f args d g p vars arrs stack g') (hfn : fs.getD fn noFn = f) {i : InsR} (hA : At fs f p stack.length i) (hn : ¬ (paid g' i).fuel < (paid g' i).now) (ho : i.op = 17) {pp : Nat} (hpp : (pp : Int) = (stack.length : Int) - (fs.getD i.a.toNat noFn).ps) {n err : Int} {g2 : GS} (hc : CallO fs i.a.toNat (stack.drop pp) d (paid g' i) n err g2) (hg : err = 0 → GLe (paid g' i) g2) :
    (err = 0 → RInv fs fn f args d g (p + 1) vars arrs (stack.take pp ++ [n]) g2) ∧ (err ≠ 0 → Rand fs (newFr fs fn args) d g 0 err g2) := by
  have hkn := opOk_known hA.ok
  obtain ⟨h1, _, _, h2⟩ := gle_paid h.ok hkn hn
  have hcl := (hA.call ho).2
  have htk := hA.takes
  rw [hcl] at htk
  have e : stack.length - parsOf fs i.a = pp := by unfold parsOf; omega
  have hto := to_call (d := d) (h.cur hfn hA.get) hn ho (n := n) (err := err) (g2 := g2) (by simp only; rw [e]; exact hc)
  simp only at hto
  rw [e] at hto
  refine ⟨fun h0 => ?_, fun h0 => ?_⟩
  · have hto : To fs ⟨fn, p, vars, arrs, stack⟩ d g' (fun rest => .run (⟨fn, p + 1, vars, arrs, stack.take pp ++ [n]⟩ :: rest) g2) := by
      obtain ⟨k, hk⟩ := hto
      exact ⟨k, fun rest hr => by rw [hk rest hr]; exact if_pos h0⟩
    have hg2 := hg h0
    have hnow := hg2.now
    refine h.next hA hto (by unfold succs; rw [if_neg (by omega), if_neg (by omega), if_neg (by omega)]; simp) ?_ rfl rfl (h1.trans hg2) (by omega)
    rw [hcl, ho]
    show _ = (stack.length : Int) - _ + 1
    rw [List.length_append, List.length_take, List.length_singleton]
    omega
  · have hto : To fs ⟨fn, p, vars, arrs, stack⟩ d g' (fun rest => outC 0 err rest g2) := by
      obtain ⟨k, hk⟩ := hto
      exact ⟨k, fun rest hr => by rw [hk rest hr]; exact if_neg h0⟩
    exact ⟨fun _ => rfl, h.run.trans hto⟩
theorem RInv.ret (h : RInv fs fn f args d g p vars arrs stack g') (hfn : fs.getD fn noFn = f) {i : InsR} (hA : At fs f p stack.length i) (hn : ¬ (paid g' i).fuel < (paid g' i).now) (ho : i.op = 18) {s : List Int} {y : Int} (hst : stack = s ++ [y]) : Rand fs (newFr fs fn args) d g y 0 (paid g' i) := by
  subst hst
  have hto := to_ret (d := d) (h.cur hfn hA.get) hn ho
  simp only [top_snoc] at hto
  exact ⟨fun h => absurd rfl h, h.run.trans hto⟩
theorem RInv.over (h : RInv fs fn f args d g p vars arrs stack g') (hfn : fs.getD fn noFn = f) {i : InsR} (hA : At fs f p stack.length i) (hn : (paid g' i).fuel < (paid g' i).now) : Rand fs (newFr fs fn args) d g 0 8 (paid g' i) := ⟨fun _ => rfl, h.run.trans (to_over (h.cur hfn hA.get) hn)⟩
theorem RInv.start {fs : List FnR} {fn : Nat} {f : FnR} {args : List Int} {d : Nat} {g : GS} (hfn : fs.getD fn noFn = f) (hf : goodF fs f) (hg : GOk g) {vs ar : Nat} (hv : (vs : Int) = f.vs) (ha : (ar : Int) = f.ar) (hl : args.length ≤ vs) :
    RInv fs fn f args d g 0 (args ++ List.replicate (vs - args.length) 0) (List.replicate ar (-1)) [] g := by
  have hW := depths_ok hf.2
  refine ⟨hW.1, by rw [List.length_append, List.length_replicate]; omega, by rw [List.length_replicate]; exact ha, ⟨hg, Int.le_refl _, rfl, rfl⟩, hg.n0, ?_⟩
  have e : newFr fs fn args = ⟨fn, 0, args ++ List.replicate (vs - args.length) 0, List.replicate ar (-1), []⟩ := by
    unfold newFr
    rw [hfn, ← hv, ← ha, Int.toNat_natCast, Int.toNat_natCast]
  rw [← e]
  exact To.refl _ _ _ _
theorem ms_start {W0 w w3 : World} {X : Nat → Prop} {m : Nat} {V : Value} {d : Nat} {g : GS} {F : Nat} {VA VB VC : Value} {vars arrs stack : List Int} (hm : Mm W0 w X m V d g) (hc : Chg (fun k => w.heap.size ≤ k) w w3) (hst : FSt w3 F VA VB VC vars arrs stack) (hF : w.heap.size ≤ F)
    (hA : ∀ k, VA.ownBlock = some k → w.heap.size ≤ k) (hB : ∀ k, VB.ownBlock = some k → w.heap.size ≤ k) (hC : ∀ k, VC.ownBlock = some k → w.heap.size ≤ k) :
    ∃ Y, Ms W0 w3 X Y m V d g F vars arrs stack ∧ Gr w X (fun k => w.heap.size ≤ k) w3 X Y := by
  refine ⟨fun k => w.heap.size ≤ k ∧ k < w3.heap.size, ⟨hm.mi.kept hc (fun k hk hx => ?_), ⟨VA, VB, VC, hst, ⟨hF, lt_of_heap hst.box⟩, fun k hk => ⟨hA k hk, ownsRow_lt hst.va k hk⟩, fun k hk => ⟨hB k hk, ownsRow_lt hst.vb k hk⟩, fun k hk => ⟨hC k hk, ownsRow_lt hst.vc k hk⟩⟩, hm.bel.trans (hc.below (B := W0.heap.size) (fun k hk => Nat.le_trans hm.bel.size hk) hm.bel.size), fun k hk => ⟨(hm.lx k hk).1, Nat.lt_of_lt_of_le (hm.lx k hk).2 hc.size⟩, fun k hk => ⟨Nat.le_trans hm.bel.size hk.1, hk.2⟩, fun k hk hy => ?_⟩, ⟨hc.mono (fun _ _ h => .inr h), fun _ h => .inl h, fun k h => .inl h.1⟩⟩
  · have := (hm.lx k hk).2; omega
  · have := (hm.lx k hk).2; omega
/-- how run ends -/
theorem run_end {W0 w wr : World} {X X' Y' : Nat → Prop} {m : Nat} {V : Value} {d : Nat} {g g' : GS} {F : Nat} {vars arrs stack : List Int} {O : Int → Int → GS → Prop} (h : Ms W0 wr X' Y' m V d g' F vars arrs stack) (hg : Gr w X (fun k => w.heap.size ≤ k) wr X' Y') {n err : Int} (hO : O n err g') (hl : err = 0 → GLe g g') :
    MachP W0 w X m V d g O (.returned (.tuple #[.int .i64 n, .int .i64 err])) wr :=
  ⟨X', n, err, g', rfl, ⟨h.mi, h.bel, h.lx⟩, hg.chg.mono (fun k hk hs => hs.resolve_right (by omega)), hg.gx, hO, hl⟩
/-- the meter has been charged -/
theorem Ms.paid {W0 w w' : World} {X Y : Nat → Prop} {m : Nat} {V : Value} {d : Nat} {g : GS} {F : Nat} {vars arrs stack : List Int} (h : Ms W0 w X Y m V d g F vars arrs stack) {mt hp : Nat} {Sh : Nat → Prop} {I0 I1 P KV CV : Value} (hs : MSt W0 w m mt hp Sh V I0 I1 P KV CV d g) (hX : MIn X m mt Sh P KV CV) (i : InsR)
    (hc : Chg (fun k => k = mt) w w') (hm : MetIs w' mt (g.now + costv i.op) g.fuel) : ∃ X', Ms W0 w' X' Y m V d (Go.Proofs.YtdpimkbdieafgaaDoor.paid g i) F vars arrs stack ∧ Gr w X Y w' X' Y :=
  h.mach (MIs.mono ⟨mt, hp, Sh, I0, I1, P, KV, CV, hs.turn _ hc hm, hX⟩ (fun k hk _ => .inl hk)) (hc.mono (fun k _ e => by rw [e]; exact hX.mt))
theorem Ms.open (W0 w : World) (X Y : Nat → Prop) (m : Nat) (V : Value) (d : Nat) (g : GS) (F : Nat) (vars arrs stack : List Int) (h : Ms W0 w X Y m V d g F vars arrs stack) : ∃ mt hp Sh I0 I1 P KV CV, MSt W0 w m mt hp Sh V I0 I1 P KV CV d g ∧ MIn X m mt Sh P KV CV ∧ w.cell? ⟨m, 0, none⟩ = some (.pointer (some ⟨mt, 0, none⟩)) := by
  obtain ⟨mt, hp, Sh, I0, I1, P, KV, CV, h1, h2⟩ := h.mi
  have c := cell_of_block h1.box 0
  simp at c
  exact ⟨mt, hp, Sh, I0, I1, P, KV, CV, h1, h2, c⟩
end Go.Proofs.YtdpimkbdieafgaaDoor
