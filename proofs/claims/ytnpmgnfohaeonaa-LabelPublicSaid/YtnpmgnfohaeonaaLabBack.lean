/- label: functions in memory; slices.Backward over them: what its function tells a loop's body. -/
import Derived.Test.YtnpmgnfohaeonaaLabStmt
import Derived.RangeFuncNested
import Derived.RangeFuncBound
import Derived.RangeFuncCalls
import Derived.RangeFuncLeaves
import Derived.Shelf.Abstract
import Derived.Shelf.RegionOpen
import Derived.WalkKit
import Derived.OwnWalkIn
import Derived.TacticsInMore
import Derived.LoopNIn
import Derived.LoopIn
namespace Go.Proofs.Ytnpmgnfohaeonaa
set_option linter.unusedVariables false
set_option linter.unusedSimpArgs false
open Go.RowKit Go.Shelf
attribute [local go_sem] Oper.semAt_some

structure FuncT where
  name : ByteArray
  params : List ByteArray
  body : List StmtT
structure FuncV where
  name : ByteArray
  pa : Option Addr
  pn : Nat
  pc : Nat
  ba : Option Addr
  bn : Nat
  bc : Nat
def FuncV.cells (v : FuncV) : List Value := [.string v.name, .slice v.pa v.pn v.pc, .slice v.ba v.bn v.bc]
structure IsFunc (w : World) (X : Nat → Prop) (x : FuncT) (v : FuncV) : Prop where
  name : v.name = x.name
  size : x.name.size ≤ 140737488355327
  pn : v.pn = x.params.length
  params : Strs w X v.pa v.pc x.params
  bn : v.bn = x.body.length
  body : Stmts w X v.ba v.bc x.body
theorem IsFunc.kept {w w' : World} {X S : Nat → Prop} {x : FuncT} {v : FuncV} (h : IsFunc w X x v) (hc : Chg S w w') (hn : ∀ k, X k → ¬ S k) : IsFunc w' X x v := ⟨h.name, h.size, h.pn, h.params.kept hc hn, h.bn, h.body.kept hc hn⟩
/-- functions, and the values that tell them -/
def FuncsV (w : World) (X : Nat → Prop) (A : Option Addr) (c : Nat) (l : List FuncT) (fv : Nat → FuncV) : Prop := RowAt w X 3 A l.length c (fun j => (fv j).cells) ∧ ∀ j x, l[j]? = some x → IsFunc w X x (fv j)
def Funcs (w : World) (X : Nat → Prop) (A : Option Addr) (c : Nat) (l : List FuncT) : Prop := ∃ fv, FuncsV w X A c l fv
theorem FuncsV.kept {w w' : World} {X S : Nat → Prop} {A : Option Addr} {c : Nat} {l : List FuncT} {fv : Nat → FuncV} (h : FuncsV w X A c l fv) (hc : Chg S w w') (hn : ∀ k, X k → ¬ S k) : FuncsV w' X A c l fv := ⟨h.1.kept hc hn, fun j x hx => (h.2 j x hx).kept hc hn⟩
theorem Funcs.kept {w w' : World} {X S : Nat → Prop} {A : Option Addr} {c : Nat} {l : List FuncT} (h : Funcs w X A c l) (hc : Chg S w w') (hn : ∀ k, X k → ¬ S k) : Funcs w' X A c l := by
  obtain ⟨fv, h⟩ := h
  exact ⟨fv, h.kept hc hn⟩

/-- what has come after d rounds, from the last one on -/
def bw (n : Nat) : Nat → List { j : Nat // j < n }
  | 0 => []
  | d + 1 => bw n d ++ (if h : n - 1 - d < n then [⟨n - 1 - d, h⟩] else [])
theorem bw_succ (n d : Nat) (h : d < n) : bw n (d + 1) = bw n d ++ [⟨n - 1 - d, by omega⟩] := by
  rw [bw, dif_pos (by omega)]
theorem bw_length (n : Nat) : ∀ d, d ≤ n → (bw n d).length = d
  | 0, _ => rfl
  | d + 1, h => by rw [bw_succ n d (by omega), List.length_append, bw_length n d (by omega)]; rfl

set_option maxRecDepth 100000 in
set_option maxHeartbeats 2000000 in
theorem back1_in (F : Fence) (n : Nat) (h7 : F.fn 28) (hro : F.round = none) (hn : 1 ≤ n) (l Bs b off len cap : Nat) (fv : Nat → FuncV) (T : Nat → Prop) (hTs : ¬ T Bs) (hTb : ¬ T b) (hmx : len ≤ 8796093022208) (J Jx : List { j : Nat // j < len } → World → Prop)
    (hY : ∀ pre x W, J pre W → pre.length < len → YieldAt F (n - 1) Try.prog l #[.int .i64 (x.1 : Int), .agg #[.string (fv x.1).name, .slice (fv x.1).pa (fv x.1).pn (fv x.1).pc, .slice (fv x.1).ba (fv x.1).bn (fv x.1).bc]] W fun e W' =>
      (e = .returned (.bool true) ∧ J (pre ++ [x]) W' ∧ Chg T W W') ∨ (e = .returned (.bool false) ∧ Jx (pre ++ [x]) W'))
    (W : World) (hBs : W.cell? ⟨Bs, 0, none⟩ = some (.slice (some ⟨b, off, none⟩) len cap)) (hc : ∀ j, j < len → W.cell? ⟨b, off + j * 3, none⟩ = some (.string (fv j).name) ∧ W.cell? ⟨b, off + j * 3 + 1, none⟩ = some (.slice (fv j).pa (fv j).pn (fv j).pc) ∧ W.cell? ⟨b, off + j * 3 + 2, none⟩ = some (.slice (fv j).ba (fv j).bn (fv j).bc)) (h0 : J [] W) :
    CallsIn F n Try.prog 28 #[.func (.yield l) #[] #[], .pointer (some ⟨Bs, 0, none⟩)] W fun e W' => (∃ v, e = .returned v) ∧
      ((∃ ys, ys = bw len len ∧ J ys W') ∨ (∃ pre, True ∧ Jx pre W')) := by
  have HC := Lib.hid hc
  have HBS := Lib.hid hBs
  have hlm : len ≤ 9223372036854775807 := by omega
  clear hc
  refine callsIn_of_wp Try.func28 rfl h7 ?_ hro
  simp only [Try.ntmps28, List.size_toArray, List.length_cons, List.length_nil, Nat.reduceAdd, Nat.reduceSub, Array.replicate_succ, Array.replicate_zero, List.push_toArray, List.append_toArray, List.nil_append, List.cons_append]
  have ew : IntKind.i64.wrap ((len : Int) - 1) = (len : Int) - 1 := by rw [IntKind.wrap_i64]; omega
  gi_wp2
  gi_loopw [3] (fun i wr => ∃ k : Nat, k ≤ len ∧ i = .int .i64 ((k : Int) - 1) ∧ J (bw len (len - k)) wr ∧ Chg T W wr)
    (fun i _ => (intOf i + 1).toNat)
  case atStart => exact ⟨len, Nat.le_refl _, rfl, by rw [Nat.sub_self]; exact h0, Chg.refl _ _⟩
  case round =>
    clear hBs ew
    obtain ⟨k, hk, rfl, hJs, hnx⟩ := hrel
    cases k with
    | succ t =>
      have e1 : (((t + 1 : Nat) : Int) - 1) = t := by omega
      rw [e1]
      obtain ⟨d0, d1, d2⟩ := HC.out t (by omega)
      have c0 := hnx.cell d0 hTb
      have c1 := hnx.cell d1 hTb
      have c2 := hnx.cell d2 hTb
      have cb := hnx.cell HBS.out hTs
      obtain ⟨fn, tmps, assign, body, hy, hR⟩ := hY _ ⟨t, hk⟩ wr hJs (by rw [bw_length _ _ (by omega)]; omega)
      dsimp only at hy
      have HNX := Lib.hid hnx
      have hbs := bw_succ len (len - (t + 1)) (by omega)
      have ei : len - 1 - (len - (t + 1)) = t := by omega
      have HBW : Hid (bw len (len - t) = bw len (len - (t + 1)) ++ [⟨t, hk⟩]) := Lib.hid (by
        rw [show len - t = len - (t + 1) + 1 by omega, hbs]
        congr 2
        exact Subtype.ext ei)
      clear d0 d1 d2 hnx hbs ei e1
      gi_wp2
      refine hR.mono ?_
      rintro e W3 (⟨rfl, hJ3, hk3⟩ | ⟨rfl, hJx3⟩)
      · gi_wp2
        go_roundw
        case rel => exact ⟨t, by omega, rfl, by rw [HBW.out]; exact hJ3, HNX.out.then hk3⟩
        case measure => simp [intOf]
      · gi_wp2
        refine bodyPost_ret (results_none rfl _ _ _) rfl ?_
        exact ⟨⟨_, rfl⟩, .inr ⟨_, trivial, hJx3⟩⟩
    | zero =>
      gi_wp2
      go_end0
      exact ⟨⟨_, rfl⟩, .inl ⟨_, rfl, hJs⟩⟩
set_option maxRecDepth 100000 in
set_option maxHeartbeats 1000000 in
theorem back1_nil_in (F : Fence) (n : Nat) (h7 : F.fn 28) (hro : F.round = none) (l Bs : Nat) (A : Option Addr) (cap : Nat) (J : List { j : Nat // j < 0 } → World → Prop) (W : World) (hBs : W.cell? ⟨Bs, 0, none⟩ = some (.slice A 0 cap)) (h0 : J [] W) :
    CallsIn F n Try.prog 28 #[.func (.yield l) #[] #[], .pointer (some ⟨Bs, 0, none⟩)] W fun e W' => (∃ v, e = .returned v) ∧ J [] W' := by
  refine callsIn_of_wp Try.func28 rfl h7 ?_ hro
  simp only [Try.ntmps28, List.size_toArray, List.length_cons, List.length_nil, Nat.reduceAdd, Nat.reduceSub, Array.replicate_succ, Array.replicate_zero, List.push_toArray, List.append_toArray, List.nil_append, List.cons_append]
  gi_wp2
  gi_loopw [3] (fun i wr => i = .int .i64 (-1) ∧ J [] wr) (fun _ _ => 0)
  case atStart => exact ⟨rfl, h0⟩
  case round =>
    obtain ⟨rfl, hJs⟩ := hrel
    gi_wp2
    go_end0
    exact ⟨⟨_, rfl⟩, hJs⟩

/-- the values of a function's yield -/
def encF (fv : Nat → FuncV) (n : Nat) (x : { j : Nat // j < n }) : Array Value := #[.int .i64 (x.1 : Int), .agg #[.string (fv x.1).name, .slice (fv x.1).pa (fv x.1).pn (fv x.1).pc, .slice (fv x.1).ba (fv x.1).bn (fv x.1).bc]]
theorem back_stops (F : Fence) (n : Nat) (h7 : F.fn 28) (hro : F.round = none) (hn : 1 ≤ n) (Bs cap : Nat) (A : Option Addr) (ls : List FuncT) (len : Nat) (hlen : len = ls.length) (fv : Nat → FuncV) (T X : Nat → Prop) (w : World) (hTs : ¬ T Bs) (hTX : ∀ k, X k → ¬ T k) (hBs : Bs < w.heap.size)
    (hc : w.cell? ⟨Bs, 0, none⟩ = some (.slice A len cap)) (hF : FuncsV w X A cap ls fv) :
    SeqStopsK F n Try.prog 28 #[.pointer (some ⟨Bs, 0, none⟩)] (encF fv len) (Chg T) (fun ys => ys = bw len len) (fun _ => True) len w := fun l J Jx W hW _ _ hY h0 => by
  have hc' := (hW.cell (p := ⟨Bs, 0, none⟩) hBs).trans hc
  have hF' := hF.kept (Below.chg hW) (fun _ _ x => x)
  have hr := hF'.1
  rw [← hlen] at hr
  clear hF hF' hlen hc
  cases len with
  | zero =>
    refine (back1_nil_in F n h7 hro l Bs A cap J W hc' h0).mono fun e W' ⟨he, hj⟩ => ⟨he, .inl ⟨_, rfl, hj⟩⟩
  | succ m =>
    obtain ⟨b, off, rfl, hx⟩ := hr.at_ (by omega)
    exact back1_in F n h7 hro hn l Bs b off (m + 1) cap fv T hTs (hTX b (hx 0 (by omega)).1) hr.max J Jx hY W hc' (fun j hj => by
      have h := (hx j hj).2.2
      exact ⟨h 0 _ rfl, h 1 _ rfl, h 2 _ rfl⟩) h0
end Go.Proofs.Ytnpmgnfohaeonaa
