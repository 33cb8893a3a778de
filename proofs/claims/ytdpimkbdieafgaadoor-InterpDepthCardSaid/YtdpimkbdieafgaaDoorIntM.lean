/- interp: the plain machine: one instruction after the other. -/
import Derived.Test.YtdpimkbdieafgaaDoorIntC
import Derived.Test.YtdpimkbdieafgaaDoorVerE
import Derived.Test.YtdpimkbdieafgaaDoorDo
namespace Go.Proofs.YtdpimkbdieafgaaDoor
set_option linter.unusedVariables false
set_option linter.unusedSimpArgs false
open Go.RowKit

/-- a call that runs -/
structure Fr where
  fn : Nat
  at_ : Nat
  vars : List Int
  arrs : List Int
  stack : List Int
def top (l : List Int) : Int := l.getLastD 0
theorem top_snoc (l : List Int) (n : Int) : top (l ++ [n]) = n := by simp [top]
/-- an instruction that does not jump, call, or return: the error (0: none), the frame, and what else there is -/
def doesv (i : InsR) (f : Fr) (g : GS) : Int × Fr × GS :=
  if i.op = 1 then (0, { f with stack := f.stack ++ [i.n] }, g)
  else if i.op = 2 then (0, { f with stack := f.stack ++ [f.vars.getD i.a.toNat 0] }, g)
  else if i.op = 3 then (0, { f with vars := f.vars.set i.a.toNat (top f.stack), stack := f.stack.dropLast }, g)
  else if i.op = 19 then (0, { f with stack := f.stack.dropLast }, { g with pr := g.pr ++ [top f.stack] })
  else if i.op = 20 then (0, { f with stack := f.stack.dropLast }, { g with ke := g.ke ++ [top f.stack] })
  else if i.op = 21 then (if i.n = 0 then (0, { f with vars := f.vars.set i.a.toNat (g.i0.headD 0) }, { g with i0 := g.i0.tail }) else (0, { f with vars := f.vars.set i.a.toNat (g.i1.headD 0) }, { g with i1 := g.i1.tail }))
  else if i.op = 25 then (0, { f with stack := f.stack ++ [g.now] }, { g with cl := g.cl ++ [g.now] })
  else if i.op = 22 then ((makev g.q g.xss i.n).2.1, { f with arrs := f.arrs.set i.a.toNat (makev g.q g.xss i.n).1 }, { g with xss := (makev g.q g.xss i.n).2.2 })
  else if i.op = 23 then (match cellv g.xss (f.arrs.getD i.a.toNat 0) (top f.stack) with
    | some n => (0, { f with stack := f.stack.dropLast ++ [n] }, g)
    | none => (7, f, g))
  else if i.op = 24 then (match cellv g.xss (f.arrs.getD i.a.toNat 0) (top f.stack.dropLast) with
    | some _ => (0, { f with stack := f.stack.dropLast.dropLast }, { g with xss := setv g.xss (f.arrs.getD i.a.toNat 0) (top f.stack.dropLast) (top f.stack) })
    | none => (7, f, g))
  else if takesv i.op = 2 then (if (doV (i.op + 2) (top f.stack.dropLast) (top f.stack)).2 = true then (0, { f with stack := f.stack.dropLast.dropLast ++ [(doV (i.op + 2) (top f.stack.dropLast) (top f.stack)).1] }, g) else (7, f, g))
  else (if (doV (i.op + 2) (top f.stack) 0).2 = true then (0, { f with stack := f.stack.dropLast ++ [(doV (i.op + 2) (top f.stack) 0).1] }, g) else (7, f, g))

inductive Conf where
  | run (frs : List Fr) (g : GS)
  | over (g : GS) (res err : Int)
def newFr (fs : List FnR) (fn : Nat) (args : List Int) : Fr :=
  ⟨fn, 0, args ++ List.replicate ((fs.getD fn noFn).vs.toNat - args.length) 0, List.replicate (fs.getD fn noFn).ar.toNat (-1), []⟩
def curI (fs : List FnR) (f : Fr) : InsR := (fs.getD f.fn noFn).l.getD f.at_ noIns
/-- a call has ended: its number goes to who has called -/
def retC (n : Int) (rest : List Fr) (g : GS) : Conf :=
  match rest with
  | [] => .over g n 0
  | f :: r => .run ({ f with stack := f.stack ++ [n] } :: r) g
/-- how many numbers a call takes -/
def parsOf (fs : List FnR) (a : Int) : Nat := (fs.getD a.toNat noFn).ps.toNat
def step (fs : List FnR) : Conf → Conf
  | .over g r e => .over g r e
  | .run [] g => .over g 0 0
  | .run (f :: rest) g =>
    let i := curI fs f
    let g1 : GS := { g with now := g.now + costv i.op }
    let f1 : Fr := { f with at_ := f.at_ + 1 }
    if g1.fuel < g1.now then .over g1 0 8
    else if i.op = 18 then retC (top f.stack) rest g1
    else if i.op = 16 then (if top f.stack = 0 then .run ({ f1 with at_ := i.a.toNat, stack := f.stack.dropLast } :: rest) g1 else .run ({ f1 with stack := f.stack.dropLast } :: rest) g1)
    else if i.op = 15 then .run ({ f1 with at_ := i.a.toNat } :: rest) g1
    else if i.op = 17 then
      (if 64 < rest.length + 1 then .over g1 0 3
       else .run (newFr fs i.a.toNat (f.stack.drop (f.stack.length - parsOf fs i.a)) :: { f1 with stack := f.stack.take (f.stack.length - parsOf fs i.a) } :: rest) g1)
    else
      let r := doesv i f1 g1
      if r.1 = 0 then .run (r.2.1 :: rest) r.2.2 else .over r.2.2 0 r.1
def iter (fs : List FnR) : Nat → Conf → Conf
  | 0, c => c
  | k + 1, c => iter fs k (step fs c)
theorem iter_add (fs : List FnR) : ∀ (a b : Nat) (c : Conf), iter fs (a + b) c = iter fs b (iter fs a c)
  | 0, b, c => by rw [Nat.zero_add]; rfl
  | a + 1, b, c => by rw [show a + 1 + b = (a + b) + 1 by omega]; show iter fs (a + b) (step fs c) = _; rw [iter_add fs a b]; rfl
theorem iter_over (fs : List FnR) : ∀ (k : Nat) (g : GS) (r e : Int), iter fs k (.over g r e) = .over g r e
  | 0, _, _, _ => rfl
  | k + 1, g, r, e => iter_over fs k g r e
/-- what comes of a call: a number, or an error -/
def outC (n err : Int) (rest : List Fr) (g : GS) : Conf := if err = 0 then retC n rest g else .over g 0 err
/-- a frame has run to its end -/
def Ran (fs : List FnR) (f : Fr) (d : Nat) (g : GS) (n err : Int) (g' : GS) : Prop :=
  ∃ k, ∀ rest : List Fr, rest.length + 1 = d → iter fs k (.run (f :: rest) g) = outC n err rest g'

/-- the depths of a function that is right -/
noncomputable def depthsOf (fs : List FnR) (f : FnR) : Int → Option Int :=
  open Classical in if h : STy fs f then lookv (Classical.choose h) else fun _ => none
theorem depths_ok {fs : List FnR} {f : FnR} (h : STy fs f) : WTy fs f (depthsOf fs f) := by
  unfold depthsOf
  rw [dif_pos h]
  exact (Classical.choose_spec h).1
/-- a frame that is right -/
structure FrOk (fs : List FnR) (f : Fr) : Prop where
  fn : f.fn < fs.length
  dep : depthsOf fs (fs.getD f.fn noFn) (f.at_ : Int) = some (f.stack.length : Int)
  vars : (f.vars.length : Int) = (fs.getD f.fn noFn).vs
  arrs : (f.arrs.length : Int) = (fs.getD f.fn noFn).ar
end Go.Proofs.YtdpimkbdieafgaaDoor
