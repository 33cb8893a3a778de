/- label: Check. -/
import Derived.Test.YtnpmgnfohaeonaaLabBack
import Derived.Maps.OwnIn
namespace Go.Proofs.Ytnpmgnfohaeonaa
set_option linter.unusedVariables false
set_option linter.unusedSimpArgs false
open Go.RowKit Go.Shelf Go.Maps
attribute [local go_sem] Oper.semAt_some

structure ProgT where
  funcs : List FuncT
  main : List StmtT
/-- the parameters of the first function of a name -/
def prms (l : List FuncT) (name : ByteArray) : List ByteArray := ((l.find? (fun f => decide (f.name = name))).map FuncT.params).getD []
def badP (p : ProgT) : Bool := p.main.any (tellS (prms p.funcs) true) || p.funcs.any (fun f => f.body.any (tellS (prms p.funcs) (!great f.name)))
def checkv (p : ProgT) : Int := if badP p then 5 else 0

/-- a map as it grew -/
def Mof : List (ByteArray × Value) → ByteArray → Option Value
  | [], _ => none
  | (a, v) :: r, x => if x = a then some v else Mof r x
def tb (fv : Nat → FuncV) (j : Nat) : ByteArray × Value := ((fv j).name, .slice (fv j).pa (fv j).pn (fv j).pc)
theorem bw_rev (n : Nat) : ∀ d, d ≤ n → ((bw n d).map Subtype.val).reverse = List.range' (n - d) d
  | 0, _ => by simp [bw]
  | d + 1, h => by
    rw [bw_succ n d (by omega), List.map_append, List.reverse_append, bw_rev n d (by omega)]
    simp only [List.map_cons, List.map_nil, List.reverse_cons, List.reverse_nil, List.nil_append, List.singleton_append]
    rw [List.range'_succ, show n - 1 - d = n - (d + 1) by omega, show n - (d + 1) + 1 = n - d by omega]
theorem bw_tbl (fv : Nat → FuncV) (n : Nat) : ((bw n n).map (fun x => tb fv x.1)).reverse = (List.range' 0 n).map (tb fv) := by
  have h := bw_rev n n (Nat.le_refl _)
  rw [Nat.sub_self] at h
  rw [← h, List.map_reverse, List.map_map]
  rfl
theorem mof_find (l : List FuncT) (fv : Nat → FuncV) (name : ByteArray) (h : ∀ j x, l[j]? = some x → (fv j).name = x.name) : ∀ d k, k + d = l.length →
    (Mof ((List.range' k d).map (tb fv)) name = none ∧ (l.drop k).find? (fun f => decide (f.name = name)) = none) ∨ ∃ j x, l[j]? = some x ∧ Mof ((List.range' k d).map (tb fv)) name = some (tb fv j).2 ∧ (l.drop k).find? (fun f => decide (f.name = name)) = some x
  | 0, k, hk => .inl ⟨rfl, by rw [List.drop_of_length_le (by omega)]; rfl⟩
  | d + 1, k, hk => by
    have hkl : k < l.length := by omega
    have hx : l[k]? = some l[k] := List.getElem?_eq_getElem hkl
    rw [List.drop_eq_getElem_cons hkl, List.find?_cons, List.range'_succ, List.map_cons]
    have hn := h k _ hx
    by_cases e : l[k].name = name
    · refine .inr ⟨k, l[k], hx, ?_, by rw [decide_eq_true e]⟩
      show (if name = (fv k).name then _ else _) = _
      rw [if_pos (by rw [hn, e])]
      rfl
    · rw [decide_eq_false e]
      rcases mof_find l fv name h d (k + 1) (by omega) with ⟨h1, h2⟩ | ⟨j, x, h1, h2, h3⟩
      · refine .inl ⟨?_, h2⟩
        show (if name = (fv k).name then _ else _) = _
        rw [if_neg (by rw [hn]; exact fun e' => e e'.symm)]
        exact h1
      · refine .inr ⟨j, x, h1, ?_, h3⟩
        show (if name = (fv k).name then _ else _) = _
        rw [if_neg (by rw [hn]; exact fun e' => e e'.symm)]
        exact h2

set_option maxRecDepth 100000 in
theorem back_any (A : Option Addr) (n c : Nat) (w : World) : Calls Try.prog 21 #[.slice A n c] w fun e w' => e = .returned (.func (.func 28) #[] #[.pointer (some ⟨w.heap.size, 0, none⟩)]) ∧ w.alloc (.cells #[.slice A n c] 22) = w' := by
  go_enter Try.func21, Try.ntmps21
  go_wp2_with fail
  go_ret
  exact ⟨rfl, rfl⟩

/-- what the map has, for each name -/
def PrmRel (w : World) (X : Nat → Prop) (M : ByteArray → Option Value) (prm : ByteArray → List ByteArray) : Prop := ∀ name : ByteArray, ∃ A c, (M name).getD (.slice none 0 0) = .slice A (prm name).length c ∧ Strs w X A c (prm name)
theorem PrmRel.kept {w w' : World} {X S : Nat → Prop} {M : ByteArray → Option Value} {prm : ByteArray → List ByteArray} (h : PrmRel w X M prm) (hc : Chg S w w') (hn : ∀ k, X k → ¬ S k) : PrmRel w' X M prm := fun name => by
  obtain ⟨A, c, h1, h2⟩ := h name
  exact ⟨A, c, h1, h2.kept hc hn⟩
theorem prmRel_of {w : World} {X : Nat → Prop} {A : Option Addr} {c : Nat} {l : List FuncT} {fv : Nat → FuncV} (h : FuncsV w X A c l fv) : PrmRel w X (Mof ((List.range' 0 l.length).map (tb fv))) (prms l) := fun name => by
  rcases mof_find l fv name (fun j x hx => (h.2 j x hx).name) l.length 0 (by omega) with ⟨h1, h2⟩ | ⟨j, x, h1, h2, h3⟩
  · rw [List.drop_zero] at h2
    unfold prms
    rw [h1, h2]
    exact ⟨none, 0, rfl, ⟨Nat.le_refl _, by simp, fun h => absurd h (by simp)⟩, fun s hs => by cases hs⟩
  · rw [List.drop_zero] at h3
    unfold prms
    rw [h2, h3]
    have hf := h.2 j x h1
    refine ⟨(fv j).pa, (fv j).pc, ?_, hf.params⟩
    show Value.slice (fv j).pa (fv j).pn (fv j).pc = _
    rw [hf.pn]
    rfl
theorem ck_of {w : World} {X : Nat → Prop} {ck m n : Nat} {pub : Bool} {M : ByteArray → Option Value} {prm : ByteArray → List ByteArray} (h1 : w.heap[ck]? = some (.cells #[.map (some m), .bool pub] 56 (0, 0))) (h2 : MapS w m n M) (h3 : PrmRel w X M prm) : Ck w (fun k => X k ∨ k = ck ∨ k = m) ck pub prm :=
  ⟨m, n, M, h1, h2, .inr (.inl rfl), .inr (.inr rfl), fun name => by
    obtain ⟨A, c, g1, g2⟩ := h3 name
    exact ⟨A, c, X, g1, g2, fun k hk => .inl hk⟩⟩

set_option maxHeartbeats 8000000 in
set_option maxRecDepth 100000 in
theorem check_any {w : World} {X : Nat → Prop} {A B : Option Addr} {c cb : Nat} (p : ProgT) (hF : Funcs w X A c p.funcs) (hM : Stmts w X B cb p.main) (hX : ∀ k, X k → k < w.heap.size) :
    Calls Try.prog 11 #[.agg #[.slice A p.funcs.length c, .slice B p.main.length cb]] w fun e w' => e = .returned (.int .i64 (checkv p)) ∧ Below w.heap.size w w' := by
  refine (callsIn_wide (n := 6)).1 (callsIn_of_wp_marks (F := Fence.wide) Try.func11 rfl trivial ?_ rfl)
  simp only [Try.ntmps11, List.size_toArray, List.length_cons, List.length_nil, Nat.reduceAdd, Nat.reduceSub, Array.replicate_succ, Array.replicate_zero, List.push_toArray, List.append_toArray, List.nil_append, List.cons_append]
  refine wpIn_wide.2 ?_
  have HF := Lib.hid hF
  have HMN := Lib.hid hM
  have HX := Lib.hid hX
  clear hF hM hX
  obtain ⟨n, hn⟩ : ∃ n, n = p.funcs.length := ⟨_, rfl⟩
  have hmx : n ≤ 8796093022208 := by obtain ⟨fv, h, _⟩ := HF.out; rw [hn]; exact h.max
  rw [← hn]
  have HN := Lib.hid hn
  clear hn
  have hmm := @run_makeMap Try.prog
  go_wp2_with fail
  refine (back_any _ _ _ _).mono ?_; rintro e w1 ⟨rfl, rfl⟩
  go_wp2_with fail
  obtain ⟨fv, hF⟩ := HF.out
  obtain ⟨W0, hW0⟩ : ∃ W0, W0 = (((w.alloc (.cells #[.slice A n c, .slice B p.main.length cb] 25)).alloc (.map #[] 0)).alloc (.cells #[.map (some (w.heap.size + 1))] 50)).alloc (.cells #[.slice A n c] 22) := ⟨_, rfl⟩
  have hsz : W0.heap.size = w.heap.size + 4 := by rw [hW0]; simp
  have hc0 : Chg (fun _ => False) w W0 := by rw [hW0]; exact ((((Chg.refl _ _).alloc _).alloc _).alloc _).alloc _
  have b1 : W0.heap[w.heap.size]? = some (.cells #[.slice A n c, .slice B p.main.length cb] 25 (0, 0)) := by rw [hW0]; exact heap_old (heap_old (heap_old (heap_new _ _)))
  have b2 : MapS W0 (w.heap.size + 1) 0 (Mof []) := by
    rw [hW0]
    have := MapS.made (w.alloc (.cells #[.slice A n c, .slice B p.main.length cb] 25))
    have e : (w.alloc (.cells #[.slice A n c, .slice B p.main.length cb] 25)).heap.size = w.heap.size + 1 := by simp
    rw [e] at this
    exact this.kept (((Chg.refl (fun _ => False) _).alloc _).alloc _) (fun x => x)
  have b3 : Boxed W0 (w.heap.size + 2) 50 (.map (some (w.heap.size + 1))) := by
    rw [hW0]
    have := heap_new ((w.alloc (.cells #[.slice A n c, .slice B p.main.length cb] 25)).alloc (.map #[] 0)) (.cells #[.map (some (w.heap.size + 1))] 50)
    have e : ((w.alloc (.cells #[.slice A n c, .slice B p.main.length cb] 25)).alloc (.map #[] 0)).heap.size = w.heap.size + 2 := by simp
    rw [e] at this
    exact heap_old this
  have b4 : W0.cell? ⟨w.heap.size + 3, 0, none⟩ = some (.slice A n c) := by
    rw [hW0]
    have := heap_new (((w.alloc (.cells #[.slice A n c, .slice B p.main.length cb] 25)).alloc (.map #[] 0)).alloc (.cells #[.map (some (w.heap.size + 1))] 50)) (.cells #[.slice A n c] 22)
    have e : (((w.alloc (.cells #[.slice A n c, .slice B p.main.length cb] 25)).alloc (.map #[] 0)).alloc (.cells #[.map (some (w.heap.size + 1))] 50)).heap.size = w.heap.size + 3 := by simp
    rw [e] at this
    exact cell_of_block this 0
  have hF0 : FuncsV W0 X A c p.funcs fv := hF.kept hc0 (fun _ _ x => x)
  have HF0 := Lib.hid hF0
  have HC0 := Lib.hid hc0
  have HB1 := Lib.hid b1
  rw [← hW0]
  clear hW0 hmm hF hF0 hc0 b1
  have hT : ∀ k, X k → ¬ (k = w.heap.size + 1 ∨ w.heap.size + 4 ≤ k) := fun k hk h => by have := HX.out k hk; omega
  refine (wpIn_wide (n := 6)).1 ?_
  refine wpIn_rangeFunc_ownH rfl (by decide) (gf := 28) (lb := #[.pointer (some ⟨w.heap.size + 1 + 1 + 1, 0, none⟩)]) rfl trivial (enters_of Try.func28 (by kernel_rfl) rfl)
    (back_stops Fence.wide (6 - 1) trivial rfl (by decide) (w.heap.size + 1 + 1 + 1) c A p.funcs n HN.out fv (fun k => k = w.heap.size + 1 ∨ w.heap.size + 4 ≤ k) X W0 (by omega) hT (by omega) b4 HF0.out) (fun h k => h.then k) (fun W l o o' hl _ _ _ => (Chg.refl _ W).grownBy (grownBy_putObj' W l o') (fun k e _ => by cases e; exact .inr (by omega))) (Below.refl _ _) (fun _ => rfl)
    (fun pre W => (Boxed W (w.heap.size + 2) 50 (.map (some (w.heap.size + 1))) ∧ MapS W (w.heap.size + 1) pre.length (Mof ((pre.map (fun x => tb fv x.1)).reverse))) ∧ Chg (fun k => k = w.heap.size + 1 ∨ w.heap.size + 4 ≤ k) W0 W)
    (fun _ _ _ => False)
    (fun s W W' row hs hg hr => ⟨⟨boxed_own (w.heap.size + 2) _ (fun (_ : Unit) => Value.map (some (w.heap.size + 1))) () W W' row hs.1.1 hg (fun r e => (hr r e).2), hs.1.2.kept (Chg.of_grown hg) (fun e => by have := (hr _ e).1; omega)⟩, hs.2.then ((Chg.of_grown hg).mono (fun k _ e => .inr (by have := (hr k e).1; omega)))⟩)
    (fun _ _ _ _ _ hs _ _ => hs)
    ⟨⟨b3, b2⟩, Chg.refl _ _⟩
    (fun x a' W => ∃ Bx, w.heap.size + 4 ≤ Bx ∧ W.heap[Bx]? = some (.cells #[.string (fv x.1).name, .slice (fv x.1).pa (fv x.1).pn (fv x.1).pc, .slice (fv x.1).ba (fv x.1).bn (fv x.1).bc] 38 (0, 0)) ∧ a' = { tmps := #[.agg #[.slice A n c, .slice B p.main.length cb], .pointer (some ⟨w.heap.size, 0, none⟩), .int .i64 0, .pointer (some ⟨w.heap.size + 1 + 1, 0, none⟩), undef, .pointer (some ⟨Bx, 0, none⟩), undef, undef, undef, undef, .map (some (w.heap.size + 1)), .pointer (some ⟨w.heap.size, 0, none⟩), .slice A n c, .func (.func 28) #[] #[.pointer (some ⟨w.heap.size + 1 + 1 + 1, 0, none⟩)], .int .i64 (x.1 : Int), .agg #[.string (fv x.1).name, .slice (fv x.1).pa (fv x.1).pn (fv x.1).pc, .slice (fv x.1).ba (fv x.1).bn (fv x.1).bc], undef, undef, undef, undef, undef, undef, undef, undef, undef, undef, undef, undef, undef, undef, undef, undef, undef, undef, undef, undef, undef, undef, undef, undef, undef, undef, undef, undef, undef, undef, undef, undef, undef, undef, undef, undef, undef], defers := [] })
    (fun x a' _ W W' row hs hg hr => by
      obtain ⟨Bx, h1, h2, h3⟩ := hs
      refine ⟨Bx, h1, (Chg.of_grown hg).heap h2 (fun e => ?_), h3⟩
      obtain ⟨_, o, ho, hc⟩ := hr Bx e
      rw [h2] at ho
      cases ho
      cases hc)
    ?assign ?body ?done ?stop
  case assign =>
    rintro l pre x W K ⟨⟨bS1, bB1⟩, hB1⟩ hK
    have hsW := hB1.size
    unfold encF
    gi_wp2
    exact hK _ _ ((KeepsOthers.alloc _ _).from _) ((Chg.refl _ _).alloc _) ⟨⟨bS1.alloc _, bB1.kept ((Chg.refl (fun _ => False) _).alloc _) (fun x => x)⟩, hB1.alloc _⟩ ⟨W.heap.size, by omega, heap_new _ _, rfl⟩
  case body =>
    rintro l pre x a' W hl ⟨r, hr⟩ ⟨⟨bS1, bB1⟩, hB1⟩ ⟨Bx, hBx, hbx, rfl⟩ hlt
    have cB := bS1.cell
    have c0 := cell_of_block hbx 0
    have c1 := cell_of_block hbx 1
    have hfx := HF0.out.2 x.1 (p.funcs[x.1]'(by rw [← HN.out]; exact x.2)) (List.getElem?_eq_getElem _)
    have hns : (fv x.1).name.size ≤ 140737488355327 := by rw [hfx.name]; exact hfx.size
    obtain ⟨w', hrun, hm', hg⟩ := bB1.store (fv x.1).name hns (.slice (fv x.1).pa (fv x.1).pn (fv x.1).pc) (by unfold maxLen; omega)
    have HG := Lib.hid (And.intro hm' hg)
    clear hm' hg hfx hns
    gi_wp2
    obtain ⟨hm', hg⟩ := HG.out
    refine ⟨KeepsFrom.of_grownBy hg (fun j e => by cases e; omega), (Chg.of_grown hg).mono (fun k _ e => .inl (by cases e; rfl)), ⟨bS1.kept hg (by simp), ?_⟩, hB1.then ((Chg.of_grown hg).mono (fun k _ e => .inl (by cases e; rfl)))⟩
    rw [List.map_append, List.reverse_append, List.length_append]
    exact hm'
  case done =>
    rintro D ys W hD rfl ⟨⟨bS1, bB1⟩, hB1⟩ hK
    rw [bw_tbl] at bB1
    have hszW : w.heap.size + 4 ≤ W.heap.size := by have := hB1.size; omega
    have hcW : Chg (fun k => w.heap.size ≤ k) w W := (HC0.out.mono (fun _ _ x => x.elim)).then (hB1.mono (fun k _ e => by omega))
    have hb1W : W.heap[w.heap.size]? = some (.cells #[.slice A n c, .slice B p.main.length cb] 25 (0, 0)) := hB1.heap HB1.out (fun e => by omega)
    have hFW : FuncsV W X A c p.funcs fv := HF0.out.kept hB1 hT
    have hMW : Stmts W X B cb p.main := HMN.out.kept hcW (fun k hk h => by have := HX.out k hk; omega)
    have hpr : PrmRel W X (Mof ((List.range' 0 n).map (tb fv))) (prms p.funcs) := by rw [HN.out]; exact prmRel_of hFW
    have c3 := bS1.cell
    have m0 := cell_of_block hb1W 0
    have m1 := cell_of_block hb1W 1
    simp at m0 m1
    have hca : Chg (fun _ => False) W (W.alloc (.cells #[.map (some (w.heap.size + 1)), .bool true] 56)) := (Chg.refl _ _).alloc _
    have hck0 : (W.alloc (.cells #[.map (some (w.heap.size + 1)), .bool true] 56)).heap[W.heap.size]? = some (.cells #[.map (some (w.heap.size + 1)), .bool true] 56 (0, 0)) := heap_new _ _
    have CM := Lib.hid (stmts_has (ck_of hck0 (bB1.kept hca (fun x => x)) (hpr.kept hca (fun _ _ x => x))) (hMW.kept hca (fun _ _ x => x)))
    have HW := Lib.hid (And.intro hb1W (And.intro hFW (And.intro hpr (And.intro bB1 (And.intro hcW hK)))))
    have HCK := Lib.hid hck0
    have HD := Lib.hid hD
    have m1a := cell_alloc m1 (.cells #[.map (some (w.heap.size + 1)), .bool true] 56)
    have hlw : w.heap.size < W.heap.size := by omega
    clear hcW hb1W hFW hMW hpr bS1 bB1 hB1 hK hca hck0 b2 b3 b4 hD
    go_wp2_with fail
    refine CM.out.mono ?_; rintro e w2 ⟨rfl, hb2⟩
    have hc2 : Chg (fun _ => False) W w2 := ((Chg.refl _ _).alloc _).then (Below.chg hb2)
    have HW2 : Hid (w2.heap[w.heap.size]? = some (.cells #[.slice A n c, .slice B p.main.length cb] 25 (0, 0)) ∧ FuncsV w2 X A c p.funcs fv ∧ PrmRel w2 X (Mof ((List.range' 0 n).map (tb fv))) (prms p.funcs) ∧ MapS w2 (w.heap.size + 1) (bw n n).length (Mof ((List.range' 0 n).map (tb fv))) ∧ Chg (fun k => w.heap.size ≤ k) w w2 ∧ w2.heap[D]? = some (.deferred (some []))) := Lib.hid (by
      obtain ⟨h1, h2, h3, h4, h5, h6⟩ := HW.out
      exact ⟨hc2.heap h1 (fun x => x), h2.kept hc2 (fun _ _ x => x), h3.kept hc2 (fun _ _ x => x), h4.kept hc2 (fun x => x), h5.then (hc2.mono (fun _ _ x => x.elim)), hc2.heap h6 (fun x => x)⟩)
    have HCK2 : Hid (w2.heap[W.heap.size]? = some (.cells #[.map (some (w.heap.size + 1)), .bool true] 56 (0, 0))) := Lib.hid ((Below.chg hb2).heap HCK.out (fun x => x))
    have hDW : D < W.heap.size := lt_of_heap HW.out.2.2.2.2.2
    obtain ⟨mb, hmb⟩ : ∃ mb, p.main.any (tellS (prms p.funcs) true) = mb := ⟨_, rfl⟩
    rw [hmb]
    have HMB := Lib.hid hmb
    have m0 := cell_of_block HW2.out.1 0
    simp at m0
    clear hmb CM HW HCK hb2 hc2 c3 m1
    obtain ⟨gf, hgf⟩ : ∃ gf : FuncT → Bool, gf = fun f => f.body.any (tellS (prms p.funcs) (!great f.name)) := ⟨_, rfl⟩
    have HGF := Lib.hid hgf
    clear hgf
    obtain ⟨ck, hck⟩ : ∃ ck, ck = W.heap.size := ⟨_, rfl⟩
    have hckw : w.heap.size + 4 ≤ ck := by omega
    have hDck : D < ck := by omega
    rw [← hck] at HCK2 ⊢
    clear hck hDW hszW
    go_wp2_with fail
    go_loopg [7, 32] n (fun k a v wr => ∃ j : Nat, j ≤ n ∧ k = n - j ∧ v = .int .i64 j ∧ a = .bool (mb || (p.funcs.take j).any gf) ∧ ∃ pub, Hid (wr.heap[ck]? = some (.cells #[.map (some (w.heap.size + 1)), .bool pub] 56 (0, 0))) ∧ Hid (Chg (fun k => k = ck) w2 wr))
    case atStart => exact ⟨0, by omega, rfl, rfl, by simp, true, HCK2, Lib.hid (Chg.refl _ _)⟩
    case round =>
      obtain ⟨j, hj, hk, rfl, rfl, pub, HP, HCH⟩ := hrel
      have HKK := Lib.hid hk
      clear hk m0
      obtain ⟨hb1r, hFr, hprr, hBr, hcr, hKr⟩ : wr.heap[w.heap.size]? = some (.cells #[.slice A n c, .slice B p.main.length cb] 25 (0, 0)) ∧ FuncsV wr X A c p.funcs fv ∧ PrmRel wr X (Mof ((List.range' 0 n).map (tb fv))) (prms p.funcs) ∧ MapS wr (w.heap.size + 1) (bw n n).length (Mof ((List.range' 0 n).map (tb fv))) ∧ Chg (fun k => w.heap.size ≤ k) w wr ∧ wr.heap[D]? = some (.deferred (some [])) := by
        obtain ⟨h1, h2, h3, h4, h5, h6⟩ := HW2.out
        have hnX : ∀ k, X k → ¬ k = ck := fun k hk e => by have := HX.out k hk; omega
        exact ⟨HCH.out.heap h1 (by omega), h2.kept HCH.out hnX, h3.kept HCH.out hnX, h4.kept HCH.out (by omega), h5.then (HCH.out.mono (fun k _ e => by omega)), HCH.out.heap h6 (by omega)⟩
      by_cases hlt : j < n
      · have hjl : j < p.funcs.length := by rw [← HN.out]; exact hlt
        have hrow := hFr.1
        obtain ⟨b, off, rfl, hx⟩ := hrow.at_ (by omega)
        have hat := (hx j hjl).2.2
        have d0 := hat 0 _ rfl
        have d1 := hat 1 _ rfl
        have d2 := hat 2 _ rfl
        have hif := hFr.2 j p.funcs[j] (List.getElem?_eq_getElem hjl)
        have htk := List.take_succ_eq_append_getElem hjl
        obtain ⟨fx, hfx⟩ : ∃ fx, p.funcs[j] = fx := ⟨_, rfl⟩
        rw [hfx] at hif htk
        obtain ⟨v, hv⟩ : ∃ v, fv j = v := ⟨_, rfl⟩
        rw [hv] at d0 d1 d2 hif
        obtain ⟨vn, vpa, vpn, vpc, vba, vbn, vbc⟩ := v
        have hvb : vbn = fx.body.length := hif.bn
        have hvn : vn = fx.name := hif.name
        simp only [Nat.add_zero] at d0
        have cp := cell_of_block HP.out 1
        have fp := frozen_of_block HP.out 1
        simp at cp
        have hckl := lt_of_heap HP.out
        obtain ⟨g, hg⟩ : ∃ g, great vn = g := ⟨_, rfl⟩
        have hgx : gf fx = fx.body.any (tellS (prms p.funcs) (!g)) := by rw [HGF.out, ← hg, hvn]
        obtain ⟨wn, hwn⟩ : ∃ wn, wn = (wr.setCell ⟨ck, 1, none⟩ (.bool (!g))).alloc (.cells #[.string vn, .slice vpa vpn vpc, .slice vba vbn vbc] 38) := ⟨_, rfl⟩
        have hcn : Chg (fun k => k = ck) wr wn := by rw [hwn]; exact (Chg.setCell (S := fun k => k = ck) (p := ⟨ck, 1, none⟩) (Chg.refl _ _) (fun _ => rfl) _).alloc _
        have hckn : wn.heap[ck]? = some (.cells #[.map (some (w.heap.size + 1)), .bool (!g)] 56 (0, 0)) := by rw [hwn]; exact heap_old (heap_set HP.out 1 _)
        have hnX : ∀ k, X k → ¬ k = ck := fun k hk e => by have := HX.out k hk; omega
        have CB := stmts_has (ck_of hckn (hBr.kept hcn (by omega)) (hprr.kept hcn hnX)) (hif.body.kept hcn hnX)
        rw [← hgx] at CB
        simp only at CB
        rw [← hvb, hwn] at CB
        have HCB := Lib.hid CB
        have HN1 := Lib.hid (And.intro hcn hckn)
        have HTK := Lib.hid htk
        have HWN := Lib.hid hwn
        have HSB := Lib.hid hv
        clear hFr hprr hBr hcr hKr hrow hx hat hif htk hfx hv hvb hvn hgx hcn hckn hnX CB hwn hb1r
        have HG := Lib.hid hg
        clear hg
        obtain ⟨gx, hgx2⟩ : ∃ gx, gf fx = gx := ⟨_, rfl⟩
        rw [hgx2] at HCB
        have HGX := Lib.hid hgx2
        clear hgx2
        obtain ⟨bd, hbd⟩ : ∃ bd, (mb || (p.funcs.take j).any gf) = bd := ⟨_, rfl⟩
        rw [hbd]
        have HBD := Lib.hid hbd
        clear hbd
        go_wp2_with fail
        refine (secret_any _ _).mono ?_; rintro e w3 ⟨rfl, rfl⟩
        rw [HG.out]
        have HJ : Hid ((mb || (p.funcs.take (j + 1)).any gf) = (bd || gx)) := Lib.hid (by
          rw [HTK.out, List.any_append, ← HBD.out, Bool.or_assoc]
          congr 2
          simp only [List.any_cons, List.any_nil, Bool.or_false]
          exact HGX.out)
        cases bd with
        | true =>
          go_wp2_with fail
          rw [← HWN.out]
          go_roundg (n - (j + 1))
          case measure => have := HKK.out; omega
          case rel => exact ⟨j + 1, by omega, rfl, by go_num, by rw [HJ.out]; rfl, !g, Lib.hid HN1.out.2, Lib.hid (HCH.out.then HN1.out.1)⟩
        | false =>
          go_wp2_with fail
          refine HCB.out.mono ?_; rintro e w4 ⟨rfl, hb4⟩
          rw [← HWN.out] at hb4
          have HB4 := Lib.hid hb4
          clear hb4
          go_wp2_with fail
          go_roundg (n - (j + 1))
          case measure => have := HKK.out; omega
          case rel => exact ⟨j + 1, by omega, rfl, by go_num, by rw [HJ.out]; rfl, !g, Lib.hid ((Below.chg HB4.out).heap HN1.out.2 (fun x => x)), Lib.hid ((HCH.out.then HN1.out.1).then ((Below.chg HB4.out).mono (fun _ _ x => x.elim)))⟩
      · have hjn : j = p.funcs.length := by rw [← HN.out]; omega
        have hbad : (mb || (p.funcs.take j).any gf) = badP p := by rw [hjn, List.take_length, ← HMB.out, HGF.out]; rfl
        rw [hbad]
        have hbel : Below w.heap.size w wr := hcr.below (fun k hk => hk) (Nat.le_refl _)
        have HBL := Lib.hid (And.intro hbel hKr)
        clear hbad hbel hKr hcr hBr hprr hFr hb1r
        obtain ⟨bp, hbp⟩ : ∃ bp, badP p = bp := ⟨_, rfl⟩
        have HBP : Hid (checkv p = if bp then 5 else 0) := Lib.hid (by unfold checkv; rw [hbp])
        rw [hbp]
        clear hbp
        have hfin : Below w.heap.size w (wr.putObj D (.deferred none)) := HBL.out.1.trans (belowK_b (w := w) (Nat.le_refl _) wr D _ _ (by have := HD.out; omega) HBL.out.2 rfl rfl)
        have HFIN := Lib.hid hfin
        clear hfin
        cases bp with
        | true =>
          go_wp2_with fail
          refine ⟨by simp, .inl ⟨_, _, rfl, run_takeDeferred HBL.out.2, ?_⟩⟩
          exact ⟨_, results_tmp rfl _ _ _, by rw [HBP.out]; rfl, HFIN.out⟩
        | false =>
          go_wp2_with fail
          refine ⟨by simp, .inl ⟨_, _, rfl, run_takeDeferred HBL.out.2, ?_⟩⟩
          exact ⟨_, results_tmp rfl _ _ _, by rw [HBP.out]; rfl, HFIN.out⟩
  case stop =>
    rintro D c pre W _ _ h _
    exact h.elim
end Go.Proofs.Ytnpmgnfohaeonaa
